/- Some texts of the library, one behind the other. -/
import Derived.Test.YtdoaagphhjggbaaGreatQSr5
import Derived.Test.YtdoaagphhjggbaaGreatQ32
import Derived.Test.YtdoaagphhjggbaaGreatQ31
import Derived.Test.YtdoaagphhjggbaaGreatQ35
import Derived.Test.YtdoaagphhjggbaaGreatQ34
import Derived.Test.YtdoaagphhjggbaaGreatQ2
section
namespace Go.Proofs.YtdoaagphhjggbaaGreat
open List renaming getD_eq_getElem?_getD → zd
open Go Go.Sx Go.RowKit Go.St
set_option maxRecDepth 100000
set_option maxHeartbeats 4000000
theorem jrv (m : Md) (hM : ModOk m) (s : Stt) (c : Nat) (hf : qi m s = true) (h : jo m s ⟨2, 0, 0, c⟩ = true) : Con Tryz.prog 24 [m.av, s.av, (⟨2, 0, 0, c⟩ : Mv).av] (qu m s ⟨2, 0, 0, c⟩).av := by
 have hs := qbx hM hf
 unfold jo at h
 rw [if_neg (by simp), if_pos (.inr rfl), Bool.and_eq_true] at h
 obtain ⟨h2, h3⟩ := h
 have h2 := of_decide_eq_true h2
 simp only at h2
 have hcl := ((ji m s).1 hf).1.2.2.1
 have hq : 0 < (s.chans.getD c []).length := by
  unfold qib qlen at h3
  simp only [Int.toNat_natCast] at h3
  rw [if_neg (by decide)] at h3
  simp only [Bool.and_eq_true, decide_eq_true_eq] at h3
  omega
 have hcc : c < s.chans.length := by omega
 have hl := hs.l _ (ql s.chans c [] hcc)
 refine zK {} 300 Tryz.func24 (fun c0 rdb => ?_)
 ((conv => whnf); refine qfm (fun _ => rfl) 300 [] (jeg s hs) (by kernel_rfl) leA qa (by exact qb rfl) (by exact qch ⟨fun _ _ => rfl, trivial⟩) (by kernel_rfl) ?_)
 (repeat' ((conv => whnf); first | refine zO ?_ | refine Ob.auto ?_ | refine zD 300 ?_ | (apply zB <;> intro hb <;> (try simp [-zd] at hb) <;> try (exfalso; omega)) | refine Ob.intro ?_ ?_ | fail))
 ·refine ⟨hcc, ⟨rfl, rfl⟩, show (s.chans.getD c []).length + 1 ≤ _ by omega, ?_⟩
  refine Nat.le_trans (Nat.mul_le_mul_right _ (show (s.chans.getD c []).length + 1 ≤ 4000001 by omega)) ?_
  dsimp only; decide +kernel
 ·exact ⟨⟨⟨rfl, rfl⟩, hcc⟩, hcc, by simp [upd], by simp [upd]⟩
 ·refine ⟨⟨trivial, ⟨rfl, rfl⟩, trivial⟩, ⟨trivial, ⟨rfl, rfl⟩, trivial⟩, ⟨trivial, ⟨rfl, rfl⟩, fun k hk => ?_⟩, trivial, trivial⟩
  show allP _ (if k = c then _ else _)
  by_cases hkc : k = c
  ·rw [if_pos hkc]
   exact ⟨⟨hcc, ⟨(if_pos rfl).symm, (if_pos rfl).symm⟩, trivial⟩, trivial⟩
  ·rw [if_neg hkc]
   exact ⟨⟨hk, ⟨(if_neg hkc).symm, (if_neg hkc).symm⟩, trivial⟩, trivial⟩
 have hst : qu m s ⟨2, 0, 0, c⟩ = { s with chans := s.chans.set c (s.chans.getD c [] ++ [(s.chans.getD c []).getD 0 0]), holder := -1 } := (if_neg (by simp)).trans (if_pos rfl)
 rw [hst]
 refine Le.agg ⟨Le.refl _, Le.refl _, Le.slcL (by simp) (fun j hj => ?_), Le.of_eq (congrArg (AV.int _) h2.1), trivial⟩
 rw [← qcd (fun c => [ints c]) [] s.chans c _ hcc j]
 show LeL (List.map _ (if j = c then _ else _)) _
 by_cases hjc : j = c
 ·rw [if_pos hjc, if_pos hjc]
  refine ⟨Le.slc (show (s.chans.getD c []).length + 1 = _ by rw [List.length_append, List.length_singleton]) (fun q hq => ?_), trivial⟩
  have hq' : q < (s.chans.getD c []).length + 1 := hq
  refine (congrFun (if_pos rfl) q).trans ?_
  exact qlz rfl hq'
 ·rw [if_neg hjc, if_neg hjc]
  refine ⟨Le.slc rfl (fun q hq => congrFun (if_neg hjc) q), trivial⟩
theorem jrw (m : Md) (hM : ModOk m) (s : Stt) (P E : Nat) (hf : qi m s = true) (h : jo m s ⟨0, P, E, 0⟩ = true) (ha : ((m.procs.getD P pr0).edges.getD E ed0).act = 2) : Con Tryz.prog 24 [m.av, s.av, (⟨0, P, E, 0⟩ : Mv).av] (qcv m s P ((m.procs.getD P pr0).edges.getD E ed0)).av := by
 have hs := qbx hM hf
 unfold jo at h
 rw [if_pos rfl, Bool.and_eq_true, Bool.and_eq_true] at h
 obtain ⟨h2, h3, h4⟩ := h
 have h3 := of_decide_eq_true h3
 simp only at h3
 have h5 : P < m.procs.length := by omega
 have h6 : E < (m.procs.getD P pr0).edges.length := by have := h3.2.2.2; rw [Int.toNat_natCast] at this; exact Int.ofNat_lt.1 this
 have hed : EdOk m.tree.length m.vars.length m.chans.length (m.procs.getD P pr0).places ((m.procs.getD P pr0).edges.getD E ed0) := edOk hM h5 h6
 have h4 : canB m s P ((m.procs.getD P pr0).edges.getD E ed0) = true := h4
 have hso := qlx hM.ok hf
 have hat : s.at_.length = m.procs.length := ((ji m s).1 hf).1.1
 have hex := hed.ex (.inr (.inl ha))
 have hch := hed.chn (.inl ha)
 have hto := hed.to
 have hcl := ((ji m s).1 hf).1.2.2.1
 have hT := qoj hM hf (p := P) hto (qok h4)
 have hA : ∀ j, (if j = P then [iv ((m.procs.getD P pr0).edges.getD E ed0).to] else encL (fun n => [iv n]) 0 s.at_ j) = encL (fun n => [iv n]) 0 (s.at_.set P ((m.procs.getD P pr0).edges.getD E ed0).to) j := qcd (fun n => [iv n]) 0 s.at_ P ((m.procs.getD P pr0).edges.getD E ed0).to (by omega)
 refine zK {} 300 Tryz.func24 (fun c0 rdb => ?_)
 ((conv => whnf); refine qfm (fun _ => rfl) 300 [] (jeg s hs) (by kernel_rfl) leA qa (by exact qb rfl) (by exact qch ⟨fun _ _ => rfl, trivial⟩) (by kernel_rfl) ?_)
 (repeat' ((conv => whnf); first | refine zO ?_ | refine Ob.auto ?_ | refine zC 300 (qwc m hM.ok P s hso m.tree.length ((m.procs.getD P pr0).edges.getD E ed0).expr (by omega) (by omega) (Nat.sub_le _ _)) ?_ | refine zD 300 ?_ | (apply zB <;> intro hb <;> (try simp [-zd] at hb) <;> try (exfalso; omega))))
 ((conv => whnf); refine qbe (fun _ => rfl) (by kernel_rfl) 300 [.con (iv (trim (valN m P s m.tree.length ((m.procs.getD P pr0).edges.getD E ed0).expr).1 (m.chans.getD ((m.procs.getD P pr0).edges.getD E ed0).chn.toNat ch0).width))] (by kernel_rfl) ?_)
 have hcc : ((m.procs.getD P pr0).edges.getD E ed0).chn.toNat < s.chans.length := by omega
 have hl := hs.l _ (ql s.chans ((m.procs.getD P pr0).edges.getD E ed0).chn.toNat [] hcc)
 (repeat' ((conv => whnf); first | refine Ob.auto ?_ | (refine Ob.intro (by (first | exact ⟨by omega, by omega⟩ | exact ⟨_, qiz (valN m P s m.tree.length ((m.procs.getD P pr0).edges.getD E ed0).expr).1 (m.chans.getD ((m.procs.getD P pr0).edges.getD E ed0).chn.toNat ch0).width, by rfl, LeL.refl _⟩)) ?_) | refine Ob.intro ?_ ?_ | fail))
 ·refine ⟨hcc, ⟨rfl, rfl⟩, show (s.chans.getD ((m.procs.getD P pr0).edges.getD E ed0).chn.toNat []).length + 1 ≤ _ by omega, ?_⟩
  refine Nat.le_trans (Nat.mul_le_mul_right _ (show (s.chans.getD ((m.procs.getD P pr0).edges.getD E ed0).chn.toNat []).length + 1 ≤ 4000001 by omega)) ?_
  dsimp only; decide +kernel
 ·exact ⟨⟨⟨rfl, rfl⟩, hcc⟩, hcc, by simp [upd], by simp [upd]⟩
 have hTe : qm m s P ((m.procs.getD P pr0).edges.getD E ed0) = ⟨s.at_.set P ((m.procs.getD P pr0).edges.getD E ed0).to, s.vars, s.chans.set ((m.procs.getD P pr0).edges.getD E ed0).chn.toNat (s.chans.getD ((m.procs.getD P pr0).edges.getD E ed0).chn.toNat [] ++ [trim (valN m P s m.tree.length ((m.procs.getD P pr0).edges.getD E ed0).expr).1 (m.chans.getD ((m.procs.getD P pr0).edges.getD E ed0).chn.toNat ch0).width]), -1⟩ := by
  unfold qm val; simp only; rw [if_neg (by omega), if_pos ha, if_neg (by omega)]
 (conv => whnf)
 refine qoq (fun _ => rfl) 300 (fun hg => qol m hM (qm m s P ((m.procs.getD P pr0).edges.getD E ed0)) hT P h5) (fun hg => ⟨fun _ => ?_, fun _ => ?_, fun _ => trivial, trivial⟩) (fun hg => And.intro (by exact Le.cnd hg) (And.intro (Le.trans (by exact Le.cnd hg) ?_) (And.intro (by exact Le.cnd hg) trivial))) (by rfl) (by kernel_rfl) ?_
 ·exact qfp
 ·refine ⟨⟨trivial, ⟨rfl, rfl⟩, trivial⟩, ⟨trivial, ⟨rfl, rfl⟩, trivial⟩, ⟨trivial, ⟨rfl, rfl⟩, fun k hk => ?_⟩, trivial, trivial⟩
  show allP _ (if k = ((m.procs.getD P pr0).edges.getD E ed0).chn.toNat then _ else _)
  by_cases hkc : k = ((m.procs.getD P pr0).edges.getD E ed0).chn.toNat
  ·rw [if_pos hkc]
   exact ⟨⟨hcc, ⟨(if_pos rfl).symm, (if_pos rfl).symm⟩, trivial⟩, trivial⟩
  ·rw [if_neg hkc]
   exact ⟨⟨hk, ⟨(if_neg hkc).symm, (if_neg hkc).symm⟩, trivial⟩, trivial⟩
 ·rw [hTe]
  exact Le.agg ⟨Le.slc (by simp) (fun j hj => hA j), Le.refl _, Le.slcL (by simp) (fun j hj => by
   rw [← qcd (fun c => [ints c]) [] s.chans ((m.procs.getD P pr0).edges.getD E ed0).chn.toNat _ hcc j]
   show LeL (List.map _ (if j = ((m.procs.getD P pr0).edges.getD E ed0).chn.toNat then _ else _)) _
   by_cases hjc : j = ((m.procs.getD P pr0).edges.getD E ed0).chn.toNat
   ·rw [if_pos hjc, if_pos hjc]
    refine ⟨Le.slc (show (s.chans.getD ((m.procs.getD P pr0).edges.getD E ed0).chn.toNat []).length + 1 = _ by rw [List.length_append, List.length_singleton]) (fun q hq => ?_), trivial⟩
    have hq' : q < (s.chans.getD ((m.procs.getD P pr0).edges.getD E ed0).chn.toNat []).length + 1 := hq
    refine (congrFun (if_pos rfl) q).trans ?_
    exact qlz rfl hq'
   ·rw [if_neg hjc, if_neg hjc]
    refine ⟨Le.slc rfl (fun q hq => congrFun (if_neg hjc) q), trivial⟩), Le.refl _, trivial⟩
 (repeat' ((conv => whnf); first | refine Ob.auto ?_ | (apply zB <;> intro hb <;> (try simp [-zd] at hb) <;> try (exfalso; omega)) | refine Ob.intro ?_ ?_ | fail))
 ·refine ⟨⟨trivial, ⟨rfl, rfl⟩, trivial⟩, ⟨trivial, ⟨rfl, rfl⟩, trivial⟩, ⟨trivial, ⟨rfl, rfl⟩, fun k hk => ?_⟩, trivial, trivial⟩
  show allP _ (if k = ((m.procs.getD P pr0).edges.getD E ed0).chn.toNat then _ else _)
  by_cases hkc : k = ((m.procs.getD P pr0).edges.getD E ed0).chn.toNat
  ·rw [if_pos hkc]
   exact ⟨⟨hcc, ⟨(if_pos rfl).symm, (if_pos rfl).symm⟩, trivial⟩, trivial⟩
  ·rw [if_neg hkc]
   exact ⟨⟨hk, ⟨(if_neg hkc).symm, (if_neg hkc).symm⟩, trivial⟩, trivial⟩
 ·refine Le.agg ⟨?_, ?_, ?_, Le.of_eq (congrArg (AV.int _) (if_pos hb).symm), trivial⟩
  ·show Le _ (ints (qm m s P ((m.procs.getD P pr0).edges.getD E ed0)).at_)
   rw [hTe]; exact Le.slc (by simp) (fun j hj => hA j)
  ·show Le _ (ints (qm m s P ((m.procs.getD P pr0).edges.getD E ed0)).vars)
   rw [hTe]; exact Le.refl _
  ·show Le _ (slcL (fun l => [ints l]) [] 1 (qm m s P ((m.procs.getD P pr0).edges.getD E ed0)).chans)
   rw [hTe]
   exact Le.slcL (by simp) (fun j hj => by
    rw [← qcd (fun c => [ints c]) [] s.chans ((m.procs.getD P pr0).edges.getD E ed0).chn.toNat _ hcc j]
    show LeL (List.map _ (if j = ((m.procs.getD P pr0).edges.getD E ed0).chn.toNat then _ else _)) _
    by_cases hjc : j = ((m.procs.getD P pr0).edges.getD E ed0).chn.toNat
    ·rw [if_pos hjc, if_pos hjc]
     refine ⟨Le.slc (show (s.chans.getD ((m.procs.getD P pr0).edges.getD E ed0).chn.toNat []).length + 1 = _ by rw [List.length_append, List.length_singleton]) (fun q hq => ?_), trivial⟩
     have hq' : q < (s.chans.getD ((m.procs.getD P pr0).edges.getD E ed0).chn.toNat []).length + 1 := hq
     refine (congrFun (if_pos rfl) q).trans ?_
     exact qlz rfl hq'
    ·rw [if_neg hjc, if_neg hjc]
     refine ⟨Le.slc rfl (fun q hq => congrFun (if_neg hjc) q), trivial⟩)
 ·refine ⟨⟨trivial, ⟨rfl, rfl⟩, trivial⟩, ⟨trivial, ⟨rfl, rfl⟩, trivial⟩, ⟨trivial, ⟨rfl, rfl⟩, fun k hk => ?_⟩, trivial, trivial⟩
  show allP _ (if k = ((m.procs.getD P pr0).edges.getD E ed0).chn.toNat then _ else _)
  by_cases hkc : k = ((m.procs.getD P pr0).edges.getD E ed0).chn.toNat
  ·rw [if_pos hkc]
   exact ⟨⟨hcc, ⟨(if_pos rfl).symm, (if_pos rfl).symm⟩, trivial⟩, trivial⟩
  ·rw [if_neg hkc]
   exact ⟨⟨hk, ⟨(if_neg hkc).symm, (if_neg hkc).symm⟩, trivial⟩, trivial⟩
 ·refine Le.agg ⟨?_, ?_, ?_, Le.of_eq (congrArg (AV.int _) (if_neg (fun h => by have := hb h.1; rw [h.2] at this; cases this)).symm), trivial⟩
  ·show Le _ (ints (qm m s P ((m.procs.getD P pr0).edges.getD E ed0)).at_)
   rw [hTe]; exact Le.slc (by simp) (fun j hj => hA j)
  ·show Le _ (ints (qm m s P ((m.procs.getD P pr0).edges.getD E ed0)).vars)
   rw [hTe]; exact Le.refl _
  ·show Le _ (slcL (fun l => [ints l]) [] 1 (qm m s P ((m.procs.getD P pr0).edges.getD E ed0)).chans)
   rw [hTe]
   exact Le.slcL (by simp) (fun j hj => by
    rw [← qcd (fun c => [ints c]) [] s.chans ((m.procs.getD P pr0).edges.getD E ed0).chn.toNat _ hcc j]
    show LeL (List.map _ (if j = ((m.procs.getD P pr0).edges.getD E ed0).chn.toNat then _ else _)) _
    by_cases hjc : j = ((m.procs.getD P pr0).edges.getD E ed0).chn.toNat
    ·rw [if_pos hjc, if_pos hjc]
     refine ⟨Le.slc (show (s.chans.getD ((m.procs.getD P pr0).edges.getD E ed0).chn.toNat []).length + 1 = _ by rw [List.length_append, List.length_singleton]) (fun q hq => ?_), trivial⟩
     have hq' : q < (s.chans.getD ((m.procs.getD P pr0).edges.getD E ed0).chn.toNat []).length + 1 := hq
     refine (congrFun (if_pos rfl) q).trans ?_
     exact qlz rfl hq'
    ·rw [if_neg hjc, if_neg hjc]
     refine ⟨Le.slc rfl (fun q hq => congrFun (if_neg hjc) q), trivial⟩)
theorem jem (m : Md) (hM : ModOk m) (s : Stt) (v : Mv) (hf : qi m s = true) (h : jo m s v = true) : Con Tryz.prog 24 [m.av, s.av, v.av] (qu m s v).av := by
 by_cases hk : v.kind = 1
 ·exact jrt m hM s v hf h hk
 ·have h' := h
  unfold jo at h
  split at h
  ·rename_i h0
   rw [Bool.and_eq_true, Bool.and_eq_true] at h
   obtain ⟨ha, hb, _⟩ := h
   have h2 := of_decide_eq_true ha
   have h3 := of_decide_eq_true hb
   clear ha hb
   obtain ⟨k, p, e, c⟩ := v
   simp only at h0 h2 h3
   obtain ⟨P, rfl⟩ := Int.eq_ofNat_of_zero_le h3.1
   obtain ⟨E, rfl⟩ := Int.eq_ofNat_of_zero_le h3.2.2.1
   obtain ⟨h2, _⟩ := h2
   subst h0 h2
   have hst : qu m s ⟨0, P, E, 0⟩ = qcv m s P ((m.procs.getD P pr0).edges.getD E ed0) := rfl
   rw [hst]
   by_cases ha : ((m.procs.getD P pr0).edges.getD E ed0).act = 2
   ·exact jrw m hM s P E hf h' ha
   ·exact jru m hM s P E hf h' ha
  ·split at h
   ·rename_i h0
    rw [Bool.and_eq_true] at h
    obtain ⟨ha, _⟩ := h
    have h2 := of_decide_eq_true ha
    clear ha
    obtain ⟨k, p, e, c⟩ := v
    simp only at h0 h2 hk
    obtain ⟨C, rfl⟩ := Int.eq_ofNat_of_zero_le h2.2.2.2.1
    obtain rfl : k = 2 := by omega
    obtain rfl : p = 0 := h2.2.1
    obtain rfl : e = 0 := h2.2.2.1
    exact jrv m hM s C hf h'
   ·cases h
set_option maxHeartbeats 2000000
theorem jrx (m : Md) (hm : MOk m) : Con Tryz.prog 38 [m.av] (qw m).av := by
 have hsz := hm.sz
 refine zK {} 300 Tryz.func38 (fun c0 rdb => ?_)
 refine qco 2 0 3 1 rfl rfl ?_
 ((conv => whnf); refine qin (fun _ => rfl) 300 1 [1, 2, 3] [0, 1] (fun i : Nat => [(4, iv i)]) (fun i => [(2, .box 34 [.own 3 0 0 i, .nils, .nils, iv (-1)]), (3, .row [] 3 1 0 i (fun _ => [iv 0]))]) (fun i => i ≤ m.procs.length) (fun i => m.procs.length - i) (0) (by omega) qa qa (fun _ => rfl) (by kernel_rfl) ?_; (conv => whnf))
 intro i hi
 (repeat' ((conv => whnf); first | refine Ob.auto ?_ | (apply zB <;> intro hb <;> (try simp [-zd] at hb) <;> try (exfalso; omega))))
 ·((conv => whnf); refine ⟨i + 1, by omega, ⟨qa, qa⟩, ⟨qa, qa⟩, ?_⟩; (first | omega | (dsimp only; omega) | skip))
 obtain rfl : i = m.procs.length := by omega
 clear hi hb
 refine qco 2 1 3 1 rfl rfl ?_
 ((conv => whnf); refine qin (fun _ => rfl) 300 2 [1, 2, 3] [0, 1, 3] (fun i : Nat => [(5, iv i)]) (fun i => [(2, .box 34 [.own 3 0 0 m.procs.length, .own 4 0 0 i, .nils, iv (-1)]), (4, .row [] 3 1 0 i (fun i => [iv (m.vars.getD i vr0).value]))]) (fun i => i ≤ m.vars.length) (fun i => m.vars.length - i) (0) (by omega) qa qa (fun _ => rfl) (by kernel_rfl) ?_; (conv => whnf))
 intro i hi
 (repeat' ((conv => whnf); first | refine Ob.auto ?_ | (refine zN 300 ?_) | (apply zB <;> intro hb <;> (try simp [-zd] at hb) <;> try (exfalso; omega))))
 ·((conv => whnf); refine ⟨i + 1, by omega, ⟨qa, qa⟩, ⟨qa, qa⟩, ?_⟩; (first | omega | (dsimp only; omega) | skip))
 obtain rfl : i = m.vars.length := by omega
 clear hi hb
 refine qco 2 2 23 1 rfl rfl ?_
 ((conv => whnf); refine qin (fun _ => rfl) 300 3 [1, 2, 3] [0, 1, 3, 4] (fun i : Nat => [(6, iv i)]) (fun i => [(2, .box 34 [.own 3 0 0 m.procs.length, .own 4 0 0 m.vars.length, .own 5 0 0 i, iv (-1)]), (5, .row [] 23 1 0 i (fun i => [.nils]))]) (fun i => i ≤ m.chans.length) (fun i => m.chans.length - i) (0) (by omega) qa qa (fun _ => rfl) (by kernel_rfl) ?_; (conv => whnf))
 intro i hi
 (repeat' ((conv => whnf); first | refine Ob.auto ?_ | (apply zB <;> intro hb <;> (try simp [-zd] at hb) <;> try (exfalso; omega))))
 ·((conv => whnf); refine ⟨i + 1, by omega, ⟨qa, qa⟩, ⟨qa, qa⟩, ?_⟩; (first | omega | (dsimp only; omega) | skip))
 obtain rfl : i = m.chans.length := by omega
 (conv => whnf)
 refine Le.agg ⟨Le.slc (by simp [qw]) (fun j hj => ?_), Le.slc (by simp [qw]) (fun j hj => ?_), Le.slcL (by simp [qw]) (fun j hj => ?_), Le.refl _, trivial⟩
 ·show [iv 0] = [iv ((qw m).at_.getD j 0)]
  rw [qw, qka _ _ _ _ hj]
 ·show [iv (m.vars.getD j vr0).value] = [iv ((qw m).vars.getD j 0)]
  rw [qw, qua _ _ _ _ vr0 hj]
 ·show LeL [.nils] [ints ((qw m).chans.getD j [])]
  rw [qw, qka _ _ _ _ hj]
  exact ⟨Le.nils _ _, trivial⟩
end Go.Proofs.YtdoaagphhjggbaaGreat
end
section
namespace Go.Proofs.YtdoaagphhjggbaaGreat
open Go Go.Sx Go.RowKit Go.St
set_option maxRecDepth 100000
set_option maxHeartbeats 4000000
theorem jry {m : Md} (hM : ModOk m) (s : Stt) : (jr m s).length ≤ 1000000 := by
 have h1 := qrs m hM s m.procs.length (Nat.le_refl _)
 have h2 := qrr m s m.chans.length
 have hz := hM.sz
 have e : jr m s = qp m s m.procs.length ++ (if s.holder = -1 then qat m s m.chans.length else []) := rfl
 rw [e, List.length_append]
 split
 ·omega
 ·simp; omega
theorem jen {n : Nat} {f g h : Nat → List AV} (h1 : ∀ k, k < n → f k = h k) (h2 : g 0 = h n) : ∀ k, k < n + 1 → LeL (appF n f 1 g k) (h k) := fun k hk => by
 unfold appF
 by_cases hl : k < n
 ·rw [if_pos hl, h1 k hl]; exact LeL.refl _
 ·obtain rfl : k = n := by omega
  rw [if_neg hl, if_pos hk, Nat.sub_self, h2]; exact LeL.refl _
end Go.Proofs.YtdoaagphhjggbaaGreat
end
section
namespace Go.Proofs.YtdoaagphhjggbaaGreat
open List renaming getD_eq_getElem?_getD → zd
open Go Go.Sx Go.RowKit Go.St
set_option maxRecDepth 100000
set_option maxHeartbeats 4000000
theorem jrz (m : Md) (hM : ModOk m) (s : Stt) (hs : SSz s) : Con Tryz.prog 16 [m.av, s.av] (.bool (qi m s && qvy m s)) := by
 have hft := qed m s hs
 by_cases hf : qi m s = true
 ·have hmv := jrh m hM s hf
  have h0 := (ji m s).1 hf
  have hz := hM.sz
  have hr := fun (q : Pr) hq => (hM.pr q hq).rl
  rw [hf] at hft
  rw [hf, Bool.true_and]
  unfold qvy
  generalize hL : jr m s = L at hmv
  refine zK {} 300 Tryz.func16 (fun c0 rdb => ?_)
  (repeat' ((conv => whnf); first | refine Ob.auto ?_ | refine zC 300 (hft) ?_ | refine zG 300 (fun hg => hmv) ?_ | (apply zB <;> intro hb <;> (try simp [-zd] at hb) <;> try (exfalso; omega))))
  ·rw [show L.isEmpty = false from by cases L with | nil => simp at hb | cons a b => rfl]
   exact Le.refl _
  ·subst hb
   have hat := h0.1.1
   have hfa := h0.2.1
   ((conv => whnf); refine qo (fun _ => rfl) 300 1 (fun i : Nat => [(21, iv i), (4, .bool false)]) (fun _ => []) (fun i => i ≤ m.procs.length ∧ ∀ j, j < i → (m.procs.getD j pr0).rest.getD (s.at_.getD j 0).toNat false = true) (fun i => m.procs.length - i) (0) (⟨Nat.zero_le _, fun j hj => absurd hj (Nat.not_lt_zero j)⟩) qa qa (fun _ => rfl) (by kernel_rfl) ?_; (conv => whnf))
   intro i hi
   have hri : i < m.procs.length → 0 ≤ s.at_.getD i 0 ∧ s.at_.getD i 0 < ((m.procs.getD i pr0).rest.length : Int) := fun h => by
    have h1 := hfa i (by omega)
    have h2 := hr _ (ql m.procs i pr0 h)
    unfold qlj at h1
    omega
   (repeat' ((conv => whnf); first | refine zO ?_ | refine Ob.auto ?_ | refine zD 300 ?_ | (apply zB <;> intro hb <;> (try simp [-zd] at hb) <;> try (exfalso; omega))))
   ·rw [show qvx m s = false from qqs (i := i) (by omega) (by assumption)]
    exact Le.refl _
   ·((conv => whnf); refine ⟨i + 1, ⟨by omega, jz hi.2 (by assumption)⟩, ⟨qa, qa⟩, ⟨qa, qa⟩, ?_⟩; (first | omega | (dsimp only; omega) | skip))
   ·rw [show qvx m s = true from qjz fun j hj => hi.2 j (by omega)]
    exact Le.refl _
 ·rw [Bool.not_eq_true] at hf
  rw [hf] at hft
  rw [hf]
  refine zK {} 300 Tryz.func16 (fun c0 rdb => ?_)
  (repeat' ((conv => whnf); first | refine Ob.auto ?_ | refine zC 300 (hft) ?_ | refine zG 300 (fun hg => (absurd hg (by decide) : Con Tryz.prog 14 [m.av, s.av] (.slc 4 0 (fun _ => [])))) ?_ | (apply zB <;> intro hb <;> (try simp [-zd] at hb) <;> try (exfalso; omega))))
  exact Le.refl _
theorem jsa (m : Md) (hM : ModOk m) (s : Stt) (hs : SSz s) : Con Tryz.prog 18 [m.av, s.av] (.bool (qi m s && badB m s)) := by
 have hft := qed m s hs
 have hsf := jre m hM.ok s hs
 have hdd := jrz m hM s hs
 by_cases hf : qi m s = true
 ·rw [hf] at hft hsf hdd
  rw [hf, Bool.true_and]
  have e : (m.safe.isEmpty || (true && qnf m s)) = qnf m s := by
   rw [Bool.true_and]
   unfold qnf
   cases m.safe with
   | nil => rfl
   | cons a b => rfl
  rw [e] at hsf
  rw [Bool.true_and] at hdd
  unfold badB
  refine zK {} 300 Tryz.func18 (fun c0 rdb => ?_)
  (repeat' ((conv => whnf); first | refine Ob.auto ?_ | refine zC 300 (hft) ?_ | refine zC 300 (hsf) ?_ | refine zG 300 (fun hg => hdd) ?_ | (apply zB <;> intro hb <;> (try simp [-zd] at hb) <;> try (exfalso; omega))))
  exact Le.refl _
 ·rw [Bool.not_eq_true] at hf
  rw [hf] at hft
  rw [hf]
  refine zK {} 300 Tryz.func18 (fun c0 rdb => ?_)
  (repeat' ((conv => whnf); first | refine Ob.auto ?_ | refine zC 300 (hft) ?_ | (apply zB <;> intro hb <;> (try simp [-zd] at hb) <;> try (exfalso; omega))))
  exact Le.refl _
end Go.Proofs.YtdoaagphhjggbaaGreat
end
section
namespace Go.Proofs.YtdoaagphhjggbaaGreat
open Go Go.Sx Go.RowKit Go.St
set_option maxRecDepth 100000
set_option maxHeartbeats 2000000
theorem jeo (m : Md) (hm : MOk m) : Con Tryz.prog 26 [m.av] (qw m).av := by
 have hsz := hm.sz
 refine zK {} 300 Tryz.func26 (fun c0 rdb => ?_)
 (repeat' ((conv => whnf); first | refine zO ?_ | refine Ob.auto ?_ | (refine Ob.intro (by ((refine ⟨by omega, by omega, by omega, ?_⟩; dsimp only; refine Int.le_trans (Int.mul_le_mul_of_nonneg_right (?_ : _ ≤ (4000001 : Int)) (Int.natCast_nonneg _)) (by decide +kernel); omega))) ?_) | (refine zR 300 ?_) | fail))
 ((conv => whnf); refine qo (fun _ => rfl) 300 1 (fun i : Nat => [(22, iv i)]) (fun i => [(9, .row [] 3 1 0 m.vars.length (fun j => [if j < i then iv (m.vars.getD j vr0).value else iv 0]))]) (fun i => i ≤ m.vars.length) (fun i => m.vars.length - i) (0) (by omega) qa ⟨qba (fun k _ => by kernel_rfl), trivial⟩ (fun _ => rfl) (by kernel_rfl) ?_; (conv => whnf))
 intro i hi
 (repeat' ((conv => whnf); first | refine Ob.auto ?_ | (apply zB <;> intro hb <;> (try simp [-List.getD_eq_getElem?_getD] at hb) <;> try (exfalso; omega))))
 ·((conv => whnf); refine ⟨i + 1, by omega, ⟨qa, qa⟩, ⟨qa, qa⟩, ?_⟩; (first | omega | (dsimp only; omega) | skip))
 ·obtain rfl : i = m.vars.length := by omega
  refine Le.agg ⟨Le.slc (by simp [qw]) (fun j hj => ?_), Le.slc (by simp [qw]) (fun j hj => ?_), Le.slcL (by simp [qw]) (fun j hj => ?_), Le.refl _, trivial⟩
  ·show _ = [iv ((qw m).at_.getD j 0)]
   rw [qw, qka _ _ _ _ (by simpa using hj)]; kernel_rfl
  ·show [if j < m.vars.length then iv (m.vars.getD j vr0).value else iv 0] = [iv ((qw m).vars.getD j 0)]
   rw [if_pos (by simpa using hj), qw, qua _ _ _ _ vr0 (by simpa using hj)]
  ·show LeL [.nils] [ints ((qw m).chans.getD j [])]
   rw [qw, qka _ _ _ _ (by simpa using hj)]
   exact ⟨Le.nils _ _, trivial⟩
end Go.Proofs.YtdoaagphhjggbaaGreat
end
