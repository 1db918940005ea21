/- Some texts of the library, one behind the other. -/
import Derived.Test.YtdoaagphhjggbaaGreatQSr5
import Derived.Test.YtdoaagphhjggbaaGreatQ32
import Derived.Test.YtdoaagphhjggbaaGreatQ31
import Derived.Test.YtdoaagphhjggbaaGreatQ34
import Derived.Test.YtdoaagphhjggbaaGreatQ2
section
namespace Go.Proofs.YtdoaagphhjggbaaGreat
open List renaming getD_eq_getElem?_getD → zd
open Go Go.Sx Go.RowKit Go.St
set_option maxRecDepth 100000
set_option maxHeartbeats 4000000
theorem jrn (m : Md) (hM : ModOk m) (s : Stt) (c : Nat) (hf : qn m s = true) (h : jm m s ⟨2, 0, 0, c⟩ = true) : Con Tryz.prog 24 [m.av, s.av, (⟨2, 0, 0, c⟩ : Mv).av] (qt m s ⟨2, 0, 0, c⟩).av := by
 have hs := qbz hM hf
 unfold jm at h
 rw [if_neg (by simp), if_pos (.inr rfl), Bool.and_eq_true] at h
 obtain ⟨h2, h3⟩ := h
 have h2 := of_decide_eq_true h2
 simp only at h2
 have hcl := ((jj m s).1 hf).1.2.2.1
 have hq : 0 < (s.chans.getD c []).length := by
  unfold qhv qlen at h3
  simp only [Int.toNat_natCast] at h3
  rw [if_neg (by decide)] at h3
  simp only [Bool.and_eq_true, decide_eq_true_eq] at h3
  omega
 have hcc : c < s.chans.length := by omega
 have hl := hs.l _ (qk s.chans c [] hcc)
 refine zK {} 300 Tryz.func24 (fun c0 rdb => ?_)
 ((conv => whnf); refine qfh (fun _ => rfl) 300 [] (jdy s hs) (by kernel_rfl) leA qa (by exact qb rfl) (by exact qce ⟨fun _ _ => rfl, trivial⟩) (by kernel_rfl) ?_)
 (repeat' ((conv => whnf); first | refine zO ?_ | refine Ob.auto ?_ | refine zD 300 ?_ | (apply zB <;> intro hb <;> (try simp [-zd] at hb) <;> try (exfalso; omega)) | refine Ob.intro ?_ ?_ | fail))
 ·refine ⟨hcc, ⟨rfl, rfl⟩, show (s.chans.getD c []).length + 1 ≤ _ by omega, ?_⟩
  refine Nat.le_trans (Nat.mul_le_mul_right _ (show (s.chans.getD c []).length + 1 ≤ 4000001 by omega)) ?_
  dsimp only; decide +kernel
 ·exact ⟨⟨⟨rfl, rfl⟩, hcc⟩, hcc, by simp [upd], by simp [upd]⟩
 ·refine ⟨⟨trivial, ⟨rfl, rfl⟩, trivial⟩, ⟨trivial, ⟨rfl, rfl⟩, trivial⟩, ⟨trivial, ⟨rfl, rfl⟩, fun k hk => ?_⟩, trivial, trivial⟩
  show allP _ (if k = c then _ else _)
  by_cases hkc : k = c
  ·rw [if_pos hkc]
   exact ⟨⟨hcc, ⟨(if_pos rfl).symm, (if_pos rfl).symm⟩, trivial⟩, trivial⟩
  ·rw [if_neg hkc]
   exact ⟨⟨hk, ⟨(if_neg hkc).symm, (if_neg hkc).symm⟩, trivial⟩, trivial⟩
 have hst : qt m s ⟨2, 0, 0, c⟩ = { s with chans := s.chans.set c (s.chans.getD c [] ++ [(s.chans.getD c []).getD 0 0]), holder := -1 } := (if_neg (by simp)).trans (if_pos rfl)
 rw [hst]
 refine Le.agg ⟨Le.refl _, Le.refl _, Le.slcL (by simp) (fun j hj => ?_), Le.of_eq (congrArg (AV.int _) h2.1), trivial⟩
 rw [← qca (fun c => [ints c]) [] s.chans c _ hcc j]
 show LeL (List.map _ (if j = c then _ else _)) _
 by_cases hjc : j = c
 ·rw [if_pos hjc, if_pos hjc]
  refine ⟨Le.slc (show (s.chans.getD c []).length + 1 = _ by rw [List.length_append, List.length_singleton]) (fun q hq => ?_), trivial⟩
  have hq' : q < (s.chans.getD c []).length + 1 := hq
  refine (congrFun (if_pos rfl) q).trans ?_
  exact qlw rfl hq'
 ·rw [if_neg hjc, if_neg hjc]
  refine ⟨Le.slc rfl (fun q hq => congrFun (if_neg hjc) q), trivial⟩
theorem jro (m : Md) (hM : ModOk m) (s : Stt) (P E : Nat) (hf : qn m s = true) (h : jm m s ⟨0, P, E, 0⟩ = true) (ha : ((m.procs.getD P pr0).edges.getD E ed0).act = 2) : Con Tryz.prog 24 [m.av, s.av, (⟨0, P, E, 0⟩ : Mv).av] (qcs m s P ((m.procs.getD P pr0).edges.getD E ed0)).av := by
 have hs := qbz hM hf
 unfold jm at h
 rw [if_pos rfl, Bool.and_eq_true, Bool.and_eq_true] at h
 obtain ⟨h2, h3, h4⟩ := h
 have h3 := of_decide_eq_true h3
 simp only at h3
 have h5 : P < m.procs.length := by omega
 have h6 : E < (m.procs.getD P pr0).edges.length := by have := h3.2.2.2; rw [Int.toNat_natCast] at this; exact Int.ofNat_lt.1 this
 have hed : EdOk m.tree.length m.vars.length m.chans.length (m.procs.getD P pr0).places ((m.procs.getD P pr0).edges.getD E ed0) := edOk hM h5 h6
 have h4 : canB m s P ((m.procs.getD P pr0).edges.getD E ed0) = true := h4
 have hso := qoh hM.ok hf
 have hat : s.at_.length = m.procs.length := ((jj m s).1 hf).1.1
 have hex := hed.ex (.inr (.inl ha))
 have hch := hed.chn (.inl ha)
 have hto := hed.to
 have hcl := ((jj m s).1 hf).1.2.2.1
 have hT := qof hM hf (p := P) hto (qog h4)
 have hA : ∀ j, (if j = P then [iv ((m.procs.getD P pr0).edges.getD E ed0).to] else encL (fun n => [iv n]) 0 s.at_ j) = encL (fun n => [iv n]) 0 (s.at_.set P ((m.procs.getD P pr0).edges.getD E ed0).to) j := qca (fun n => [iv n]) 0 s.at_ P ((m.procs.getD P pr0).edges.getD E ed0).to (by omega)
 refine zK {} 300 Tryz.func24 (fun c0 rdb => ?_)
 ((conv => whnf); refine qfh (fun _ => rfl) 300 [] (jdy s hs) (by kernel_rfl) leA qa (by exact qb rfl) (by exact qce ⟨fun _ _ => rfl, trivial⟩) (by kernel_rfl) ?_)
 (repeat' ((conv => whnf); first | refine zO ?_ | refine Ob.auto ?_ | refine zC 300 (qvu m hM.ok P s hso m.tree.length ((m.procs.getD P pr0).edges.getD E ed0).expr (by omega) (by omega) (Nat.sub_le _ _)) ?_ | refine zD 300 ?_ | (apply zB <;> intro hb <;> (try simp [-zd] at hb) <;> try (exfalso; omega))))
 ((conv => whnf); refine qat (fun _ => rfl) (by kernel_rfl) 300 [.con (iv (trim (valN m P s m.tree.length ((m.procs.getD P pr0).edges.getD E ed0).expr).1 (m.chans.getD ((m.procs.getD P pr0).edges.getD E ed0).chn.toNat ch0).width))] (by kernel_rfl) ?_)
 have hcc : ((m.procs.getD P pr0).edges.getD E ed0).chn.toNat < s.chans.length := by omega
 have hl := hs.l _ (qk s.chans ((m.procs.getD P pr0).edges.getD E ed0).chn.toNat [] hcc)
 (repeat' ((conv => whnf); first | refine Ob.auto ?_ | (refine Ob.intro (by (first | exact ⟨by omega, by omega⟩ | exact ⟨_, qit (valN m P s m.tree.length ((m.procs.getD P pr0).edges.getD E ed0).expr).1 (m.chans.getD ((m.procs.getD P pr0).edges.getD E ed0).chn.toNat ch0).width, by rfl, LeL.refl _⟩)) ?_) | refine Ob.intro ?_ ?_ | fail))
 ·refine ⟨hcc, ⟨rfl, rfl⟩, show (s.chans.getD ((m.procs.getD P pr0).edges.getD E ed0).chn.toNat []).length + 1 ≤ _ by omega, ?_⟩
  refine Nat.le_trans (Nat.mul_le_mul_right _ (show (s.chans.getD ((m.procs.getD P pr0).edges.getD E ed0).chn.toNat []).length + 1 ≤ 4000001 by omega)) ?_
  dsimp only; decide +kernel
 ·exact ⟨⟨⟨rfl, rfl⟩, hcc⟩, hcc, by simp [upd], by simp [upd]⟩
 have hTe : ql m s P ((m.procs.getD P pr0).edges.getD E ed0) = ⟨s.at_.set P ((m.procs.getD P pr0).edges.getD E ed0).to, s.vars, s.chans.set ((m.procs.getD P pr0).edges.getD E ed0).chn.toNat (s.chans.getD ((m.procs.getD P pr0).edges.getD E ed0).chn.toNat [] ++ [trim (valN m P s m.tree.length ((m.procs.getD P pr0).edges.getD E ed0).expr).1 (m.chans.getD ((m.procs.getD P pr0).edges.getD E ed0).chn.toNat ch0).width]), -1⟩ := by
  unfold ql val; simp only; rw [if_neg (by omega), if_pos ha, if_neg (by omega)]
 (conv => whnf)
 refine qom (fun _ => rfl) 300 (fun hg => qoi m hM (ql m s P ((m.procs.getD P pr0).edges.getD E ed0)) hT P h5) (fun hg => ⟨fun _ => ?_, fun _ => ?_, fun _ => trivial, trivial⟩) (fun hg => And.intro (by exact Le.cnd hg) (And.intro (Le.trans (by exact Le.cnd hg) ?_) (And.intro (by exact Le.cnd hg) trivial))) (by rfl) (by kernel_rfl) ?_
 ·exact qfk
 ·refine ⟨⟨trivial, ⟨rfl, rfl⟩, trivial⟩, ⟨trivial, ⟨rfl, rfl⟩, trivial⟩, ⟨trivial, ⟨rfl, rfl⟩, fun k hk => ?_⟩, trivial, trivial⟩
  show allP _ (if k = ((m.procs.getD P pr0).edges.getD E ed0).chn.toNat then _ else _)
  by_cases hkc : k = ((m.procs.getD P pr0).edges.getD E ed0).chn.toNat
  ·rw [if_pos hkc]
   exact ⟨⟨hcc, ⟨(if_pos rfl).symm, (if_pos rfl).symm⟩, trivial⟩, trivial⟩
  ·rw [if_neg hkc]
   exact ⟨⟨hk, ⟨(if_neg hkc).symm, (if_neg hkc).symm⟩, trivial⟩, trivial⟩
 ·rw [hTe]
  exact Le.agg ⟨Le.slc (by simp) (fun j hj => hA j), Le.refl _, Le.slcL (by simp) (fun j hj => by
   rw [← qca (fun c => [ints c]) [] s.chans ((m.procs.getD P pr0).edges.getD E ed0).chn.toNat _ hcc j]
   show LeL (List.map _ (if j = ((m.procs.getD P pr0).edges.getD E ed0).chn.toNat then _ else _)) _
   by_cases hjc : j = ((m.procs.getD P pr0).edges.getD E ed0).chn.toNat
   ·rw [if_pos hjc, if_pos hjc]
    refine ⟨Le.slc (show (s.chans.getD ((m.procs.getD P pr0).edges.getD E ed0).chn.toNat []).length + 1 = _ by rw [List.length_append, List.length_singleton]) (fun q hq => ?_), trivial⟩
    have hq' : q < (s.chans.getD ((m.procs.getD P pr0).edges.getD E ed0).chn.toNat []).length + 1 := hq
    refine (congrFun (if_pos rfl) q).trans ?_
    exact qlw rfl hq'
   ·rw [if_neg hjc, if_neg hjc]
    refine ⟨Le.slc rfl (fun q hq => congrFun (if_neg hjc) q), trivial⟩), Le.refl _, trivial⟩
 (repeat' ((conv => whnf); first | refine Ob.auto ?_ | (apply zB <;> intro hb <;> (try simp [-zd] at hb) <;> try (exfalso; omega)) | refine Ob.intro ?_ ?_ | fail))
 ·refine ⟨⟨trivial, ⟨rfl, rfl⟩, trivial⟩, ⟨trivial, ⟨rfl, rfl⟩, trivial⟩, ⟨trivial, ⟨rfl, rfl⟩, fun k hk => ?_⟩, trivial, trivial⟩
  show allP _ (if k = ((m.procs.getD P pr0).edges.getD E ed0).chn.toNat then _ else _)
  by_cases hkc : k = ((m.procs.getD P pr0).edges.getD E ed0).chn.toNat
  ·rw [if_pos hkc]
   exact ⟨⟨hcc, ⟨(if_pos rfl).symm, (if_pos rfl).symm⟩, trivial⟩, trivial⟩
  ·rw [if_neg hkc]
   exact ⟨⟨hk, ⟨(if_neg hkc).symm, (if_neg hkc).symm⟩, trivial⟩, trivial⟩
 ·refine Le.agg ⟨?_, ?_, ?_, Le.of_eq (congrArg (AV.int _) (if_pos hb).symm), trivial⟩
  ·show Le _ (ints (ql m s P ((m.procs.getD P pr0).edges.getD E ed0)).at_)
   rw [hTe]; exact Le.slc (by simp) (fun j hj => hA j)
  ·show Le _ (ints (ql m s P ((m.procs.getD P pr0).edges.getD E ed0)).vars)
   rw [hTe]; exact Le.refl _
  ·show Le _ (slcL (fun l => [ints l]) [] 1 (ql m s P ((m.procs.getD P pr0).edges.getD E ed0)).chans)
   rw [hTe]
   exact Le.slcL (by simp) (fun j hj => by
    rw [← qca (fun c => [ints c]) [] s.chans ((m.procs.getD P pr0).edges.getD E ed0).chn.toNat _ hcc j]
    show LeL (List.map _ (if j = ((m.procs.getD P pr0).edges.getD E ed0).chn.toNat then _ else _)) _
    by_cases hjc : j = ((m.procs.getD P pr0).edges.getD E ed0).chn.toNat
    ·rw [if_pos hjc, if_pos hjc]
     refine ⟨Le.slc (show (s.chans.getD ((m.procs.getD P pr0).edges.getD E ed0).chn.toNat []).length + 1 = _ by rw [List.length_append, List.length_singleton]) (fun q hq => ?_), trivial⟩
     have hq' : q < (s.chans.getD ((m.procs.getD P pr0).edges.getD E ed0).chn.toNat []).length + 1 := hq
     refine (congrFun (if_pos rfl) q).trans ?_
     exact qlw rfl hq'
    ·rw [if_neg hjc, if_neg hjc]
     refine ⟨Le.slc rfl (fun q hq => congrFun (if_neg hjc) q), trivial⟩)
 ·refine ⟨⟨trivial, ⟨rfl, rfl⟩, trivial⟩, ⟨trivial, ⟨rfl, rfl⟩, trivial⟩, ⟨trivial, ⟨rfl, rfl⟩, fun k hk => ?_⟩, trivial, trivial⟩
  show allP _ (if k = ((m.procs.getD P pr0).edges.getD E ed0).chn.toNat then _ else _)
  by_cases hkc : k = ((m.procs.getD P pr0).edges.getD E ed0).chn.toNat
  ·rw [if_pos hkc]
   exact ⟨⟨hcc, ⟨(if_pos rfl).symm, (if_pos rfl).symm⟩, trivial⟩, trivial⟩
  ·rw [if_neg hkc]
   exact ⟨⟨hk, ⟨(if_neg hkc).symm, (if_neg hkc).symm⟩, trivial⟩, trivial⟩
 ·refine Le.agg ⟨?_, ?_, ?_, Le.of_eq (congrArg (AV.int _) (if_neg (fun h => by have := hb h.1; rw [h.2] at this; cases this)).symm), trivial⟩
  ·show Le _ (ints (ql m s P ((m.procs.getD P pr0).edges.getD E ed0)).at_)
   rw [hTe]; exact Le.slc (by simp) (fun j hj => hA j)
  ·show Le _ (ints (ql m s P ((m.procs.getD P pr0).edges.getD E ed0)).vars)
   rw [hTe]; exact Le.refl _
  ·show Le _ (slcL (fun l => [ints l]) [] 1 (ql m s P ((m.procs.getD P pr0).edges.getD E ed0)).chans)
   rw [hTe]
   exact Le.slcL (by simp) (fun j hj => by
    rw [← qca (fun c => [ints c]) [] s.chans ((m.procs.getD P pr0).edges.getD E ed0).chn.toNat _ hcc j]
    show LeL (List.map _ (if j = ((m.procs.getD P pr0).edges.getD E ed0).chn.toNat then _ else _)) _
    by_cases hjc : j = ((m.procs.getD P pr0).edges.getD E ed0).chn.toNat
    ·rw [if_pos hjc, if_pos hjc]
     refine ⟨Le.slc (show (s.chans.getD ((m.procs.getD P pr0).edges.getD E ed0).chn.toNat []).length + 1 = _ by rw [List.length_append, List.length_singleton]) (fun q hq => ?_), trivial⟩
     have hq' : q < (s.chans.getD ((m.procs.getD P pr0).edges.getD E ed0).chn.toNat []).length + 1 := hq
     refine (congrFun (if_pos rfl) q).trans ?_
     exact qlw rfl hq'
    ·rw [if_neg hjc, if_neg hjc]
     refine ⟨Le.slc rfl (fun q hq => congrFun (if_neg hjc) q), trivial⟩)
theorem jee (m : Md) (hM : ModOk m) (s : Stt) (v : Mv) (hf : qn m s = true) (h : jm m s v = true) : Con Tryz.prog 24 [m.av, s.av, v.av] (qt m s v).av := by
 by_cases hk : v.kind = 1
 ·exact jrl m hM s v hf h hk
 ·have h' := h
  unfold jm at h
  split at h
  ·rename_i h0
   rw [Bool.and_eq_true, Bool.and_eq_true] at h
   obtain ⟨ha, hb, _⟩ := h
   have h2 := of_decide_eq_true ha
   have h3 := of_decide_eq_true hb
   clear ha hb
   obtain ⟨k, p, e, c⟩ := v
   simp only at h0 h2 h3
   obtain ⟨P, rfl⟩ := Int.eq_ofNat_of_zero_le h3.1
   obtain ⟨E, rfl⟩ := Int.eq_ofNat_of_zero_le h3.2.2.1
   obtain ⟨h2, _⟩ := h2
   subst h0 h2
   have hst : qt m s ⟨0, P, E, 0⟩ = qcs m s P ((m.procs.getD P pr0).edges.getD E ed0) := rfl
   rw [hst]
   by_cases ha : ((m.procs.getD P pr0).edges.getD E ed0).act = 2
   ·exact jro m hM s P E hf h' ha
   ·exact jrm m hM s P E hf h' ha
  ·split at h
   ·rename_i h0
    rw [Bool.and_eq_true] at h
    obtain ⟨ha, _⟩ := h
    have h2 := of_decide_eq_true ha
    clear ha
    obtain ⟨k, p, e, c⟩ := v
    simp only at h0 h2 hk
    obtain ⟨C, rfl⟩ := Int.eq_ofNat_of_zero_le h2.2.2.2.1
    obtain rfl : k = 2 := by omega
    obtain rfl : p = 0 := h2.2.1
    obtain rfl : e = 0 := h2.2.2.1
    exact jrn m hM s C hf h'
   ·cases h
set_option maxHeartbeats 2000000
theorem jrp (m : Md) (hm : MOk m) : Con Tryz.prog 38 [m.av] (qx m).av := by
 have hsz := hm.sz
 refine zK {} 300 Tryz.func38 (fun c0 rdb => ?_)
 refine qcl 2 0 3 1 rfl rfl ?_
 ((conv => whnf); refine qjs (fun _ => rfl) 300 1 [1, 2, 3] [0, 1] (fun i : Nat => [(4, iv i)]) (fun i => [(2, .box 34 [.own 3 0 0 i, .nils, .nils, iv (-1)]), (3, .row [] 3 1 0 i (fun _ => [iv 0]))]) (fun i => i ≤ m.procs.length) (fun i => m.procs.length - i) (0) (by omega) qa qa (fun _ => rfl) (by kernel_rfl) ?_; (conv => whnf))
 intro i hi
 (repeat' ((conv => whnf); first | refine Ob.auto ?_ | (apply zB <;> intro hb <;> (try simp [-zd] at hb) <;> try (exfalso; omega))))
 ·((conv => whnf); refine ⟨i + 1, by omega, ⟨qa, qa⟩, ⟨qa, qa⟩, ?_⟩; (first | omega | (dsimp only; omega) | skip))
 obtain rfl : i = m.procs.length := by omega
 clear hi hb
 refine qcl 2 1 3 1 rfl rfl ?_
 ((conv => whnf); refine qjs (fun _ => rfl) 300 2 [1, 2, 3] [0, 1, 3] (fun i : Nat => [(5, iv i)]) (fun i => [(2, .box 34 [.own 3 0 0 m.procs.length, .own 4 0 0 i, .nils, iv (-1)]), (4, .row [] 3 1 0 i (fun i => [iv (m.vars.getD i vr0).value]))]) (fun i => i ≤ m.vars.length) (fun i => m.vars.length - i) (0) (by omega) qa qa (fun _ => rfl) (by kernel_rfl) ?_; (conv => whnf))
 intro i hi
 (repeat' ((conv => whnf); first | refine Ob.auto ?_ | (refine zN 300 ?_) | (apply zB <;> intro hb <;> (try simp [-zd] at hb) <;> try (exfalso; omega))))
 ·((conv => whnf); refine ⟨i + 1, by omega, ⟨qa, qa⟩, ⟨qa, qa⟩, ?_⟩; (first | omega | (dsimp only; omega) | skip))
 obtain rfl : i = m.vars.length := by omega
 clear hi hb
 refine qcl 2 2 23 1 rfl rfl ?_
 ((conv => whnf); refine qjs (fun _ => rfl) 300 3 [1, 2, 3] [0, 1, 3, 4] (fun i : Nat => [(6, iv i)]) (fun i => [(2, .box 34 [.own 3 0 0 m.procs.length, .own 4 0 0 m.vars.length, .own 5 0 0 i, iv (-1)]), (5, .row [] 23 1 0 i (fun i => [.nils]))]) (fun i => i ≤ m.chans.length) (fun i => m.chans.length - i) (0) (by omega) qa qa (fun _ => rfl) (by kernel_rfl) ?_; (conv => whnf))
 intro i hi
 (repeat' ((conv => whnf); first | refine Ob.auto ?_ | (apply zB <;> intro hb <;> (try simp [-zd] at hb) <;> try (exfalso; omega))))
 ·((conv => whnf); refine ⟨i + 1, by omega, ⟨qa, qa⟩, ⟨qa, qa⟩, ?_⟩; (first | omega | (dsimp only; omega) | skip))
 obtain rfl : i = m.chans.length := by omega
 (conv => whnf)
 refine Le.agg ⟨Le.slc (by simp [qx]) (fun j hj => ?_), Le.slc (by simp [qx]) (fun j hj => ?_), Le.slcL (by simp [qx]) (fun j hj => ?_), Le.refl _, trivial⟩
 ·show [iv 0] = [iv ((qx m).at_.getD j 0)]
  rw [qx, qjv _ _ _ _ hj]
 ·show [iv (m.vars.getD j vr0).value] = [iv ((qx m).vars.getD j 0)]
  rw [qx, qtt _ _ _ _ vr0 hj]
 ·show LeL [.nils] [ints ((qx m).chans.getD j [])]
  rw [qx, qjv _ _ _ _ hj]
  exact ⟨Le.nils _ _, trivial⟩
end Go.Proofs.YtdoaagphhjggbaaGreat
end
section
namespace Go.Proofs.YtdoaagphhjggbaaGreat
open Go Go.Sx Go.RowKit Go.St
set_option maxRecDepth 100000
set_option maxHeartbeats 4000000
theorem jrq {m : Md} (hM : ModOk m) (s : Stt) : (qao m s).length ≤ 1000000 := by
 have h1 := qvy m hM s m.procs.length (Nat.le_refl _)
 have h2 := qvx m s m.chans.length
 have hz := hM.sz
 have e : qao m s = ju m s m.procs.length ++ (if s.holder = -1 then qct m s m.chans.length else []) := rfl
 rw [e, List.length_append]
 split
 ·omega
 ·simp; omega
theorem jef {n : Nat} {f g h : Nat → List AV} (h1 : ∀ k, k < n → f k = h k) (h2 : g 0 = h n) : ∀ k, k < n + 1 → LeL (appF n f 1 g k) (h k) := fun k hk => by
 unfold appF
 by_cases hl : k < n
 ·rw [if_pos hl, h1 k hl]; exact LeL.refl _
 ·obtain rfl : k = n := by omega
  rw [if_neg hl, if_pos hk, Nat.sub_self, h2]; exact LeL.refl _

set_option maxHeartbeats 2000000
theorem qwb (m : Md) (hm : MOk m) : Con Tryz.prog 26 [m.av] (qx m).av := by
 have hsz := hm.sz
 refine zK {} 300 Tryz.func26 (fun c0 rdb => ?_)
 (repeat' ((conv => whnf); first | refine zO ?_ | refine Ob.auto ?_ | (refine Ob.intro (by ((refine ⟨by omega, by omega, by omega, ?_⟩; dsimp only; refine Int.le_trans (Int.mul_le_mul_of_nonneg_right (?_ : _ ≤ (4000001 : Int)) (Int.natCast_nonneg _)) (by decide +kernel); omega))) ?_) | (refine zR 300 ?_) | fail))
 ((conv => whnf); refine qo (fun _ => rfl) 300 1 (fun i : Nat => [(22, iv i)]) (fun i => [(9, .row [] 3 1 0 m.vars.length (fun j => [if j < i then iv (m.vars.getD j vr0).value else iv 0]))]) (fun i => i ≤ m.vars.length) (fun i => m.vars.length - i) (0) (by omega) qa ⟨qaz (fun k _ => by kernel_rfl), trivial⟩ (fun _ => rfl) (by kernel_rfl) ?_; (conv => whnf))
 intro i hi
 (repeat' ((conv => whnf); first | refine Ob.auto ?_ | (apply zB <;> intro hb <;> (try simp [-List.getD_eq_getElem?_getD] at hb) <;> try (exfalso; omega))))
 ·((conv => whnf); refine ⟨i + 1, by omega, ⟨qa, qa⟩, ⟨qa, qa⟩, ?_⟩; (first | omega | (dsimp only; omega) | skip))
 ·obtain rfl : i = m.vars.length := by omega
  refine Le.agg ⟨Le.slc (by simp [qx]) (fun j hj => ?_), Le.slc (by simp [qx]) (fun j hj => ?_), Le.slcL (by simp [qx]) (fun j hj => ?_), Le.refl _, trivial⟩
  ·show _ = [iv ((qx m).at_.getD j 0)]
   rw [qx, qjv _ _ _ _ (by simpa using hj)]; kernel_rfl
  ·show [if j < m.vars.length then iv (m.vars.getD j vr0).value else iv 0] = [iv ((qx m).vars.getD j 0)]
   rw [if_pos (by simpa using hj), qx, qtt _ _ _ _ vr0 (by simpa using hj)]
  ·show LeL [.nils] [ints ((qx m).chans.getD j [])]
   rw [qx, qjv _ _ _ _ (by simpa using hj)]
   exact ⟨Le.nils _ _, trivial⟩
set_option maxHeartbeats 4000000
def qfo (m : Md) (l : List Mv) : Bool := decide (nF m l = l.length) && badB m (stN m l (nF m l))
theorem jeg {m : Md} (hM : ModOk m) {l : List Mv} {i : Nat} (hf : qn m (stN m l i) = true) (hok : okN m l i = true) : Con Tryz.prog 22 [m.av, (stN m l i).av, (l.getD i {}).av] (.tup [(stN m l (i + 1)).av, .bool true]) := by
 have hdo := jed m hM (stN m l i) (qbz hM hf) (l.getD i {})
 have hde : doB m (stN m l i) (l.getD i {}) = true := by unfold doB; rw [hf, Bool.true_and]; exact hok
 unfold qrf at hdo
 rw [hde, if_pos rfl] at hdo
 exact hdo
theorem jeh {m : Md} (hM : ModOk m) {l : List Mv} {i : Nat} (hf : qn m (stN m l i) = true) (hok : okN m l i = false) : Con Tryz.prog 22 [m.av, (stN m l i).av, (l.getD i {}).av] (.tup [st0z.av, .bool false]) := by
 have hdo := jed m hM (stN m l i) (qbz hM hf) (l.getD i {})
 have hde : doB m (stN m l i) (l.getD i {}) = false := by unfold doB; rw [hf, Bool.true_and]; exact hok
 unfold qrf at hdo
 rw [hde, if_neg (by decide)] at hdo
 exact hdo
end Go.Proofs.YtdoaagphhjggbaaGreat
end
