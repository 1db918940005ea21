/- Some texts of the library, one behind the other. -/
import Derived.Test.YtdoaagphhjggbaaGreatQ26
import Derived.Test.YtdoaagphhjggbaaGreatQ28
import Derived.Test.YtdoaagphhjggbaaGreatQ29
import Derived.Test.YtdoaagphhjggbaaGreatQ2
section
namespace Go.Proofs.YtdoaagphhjggbaaGreat
open List renaming getD_eq_getElem?_getD → zd
open Go Go.Sx Go.RowKit Go.St
set_option maxRecDepth 100000
set_option maxHeartbeats 4000000
theorem jsh (m : Md) (hM : ModOk m) (s : Stt) (v : Mv) (hf : qg m s = true) (h : ji m s v = true) (hk : v.kind = 1) : Con Tryz.prog 24 [m.av, s.av, v.av] (qv m s v).av := by
 have hs := qbp hM hf
 unfold ji at h
 rw [if_neg (by omega), if_pos (.inl hk), if_pos hk, Bool.and_eq_true] at h
 obtain ⟨h2, h3⟩ := h
 have h2 := of_decide_eq_true h2
 have hcl := ((jc m s).1 hf).1.2.2.1
 have hq : 0 < (s.chans.getD v.chn.toNat []).length := by
  unfold qje qlen at h3
  simp only [Bool.and_eq_true, decide_eq_true_eq, Int.toNat_natCast] at h3
  omega
 have hst : qv m s v = { s with chans := s.chans.set v.chn.toNat ((s.chans.getD v.chn.toNat []).drop 1), holder := -1 } := if_pos hk
 rw [hst]
 refine zK {} 300 Tryz.func24 (fun c0 rdb => ?_)
 ((conv => whnf); refine zT 300 [] (jev s hs) qa ?_)
 (repeat' ((conv => whnf); first | refine zO ?_ | refine Ob.auto ?_ | refine zD 300 ?_ | (apply zB <;> intro hb <;> (try simp [-zd] at hb) <;> try (exfalso; omega))))
 exact Le.agg ⟨Le.refl _, Le.refl _, Le.slcL (by simp) (fun j hj => qov (by omega) j), Le.of_eq (congrArg (AV.int _) h2.1), trivial⟩
theorem jsi (m : Md) (hM : ModOk m) (s : Stt) (P E : Nat) (hf : qg m s = true) (h : ji m s ⟨0, P, E, 0⟩ = true) (ha : ((m.procs.getD P pr0).edges.getD E ed0).act ≠ 2) : Con Tryz.prog 24 [m.av, s.av, (⟨0, P, E, 0⟩ : Mv).av] (qbn m s P ((m.procs.getD P pr0).edges.getD E ed0)).av := by
 have hs := qbp hM hf
 unfold ji at h
 rw [if_pos rfl, Bool.and_eq_true, Bool.and_eq_true] at h
 obtain ⟨h2, h3, h4⟩ := h
 have h3 := of_decide_eq_true h3
 simp only at h3
 have h5 : P < m.procs.length := by omega
 have h6 : E < (m.procs.getD P pr0).edges.length := by have := h3.2.2.2; rw [Int.toNat_natCast] at this; exact Int.ofNat_lt.1 this
 have hed : EdOk m.tree.length m.vars.length m.chans.length (m.procs.getD P pr0).places ((m.procs.getD P pr0).edges.getD E ed0) := edOk hM h5 h6
 have h4 : canB m s P ((m.procs.getD P pr0).edges.getD E ed0) = true := h4
 have hso := qkp hM.ok hf
 have hat : s.at_.length = m.procs.length := ((jc m s).1 hf).1.1
 have hex := hed.ex
 have hnx := hed.nex
 have hvr := hed.var
 have hch := hed.chn
 have hac := hed.act
 have hxl : 0 ≤ ((m.procs.getD P pr0).edges.getD E ed0).expr → ((m.procs.getD P pr0).edges.getD E ed0).expr < m.tree.length := fun h0 => by
  by_cases h : ((m.procs.getD P pr0).edges.getD E ed0).act = 1 ∨ ((m.procs.getD P pr0).edges.getD E ed0).act = 2 ∨ ((m.procs.getD P pr0).edges.getD E ed0).act = 4 ∨ ((m.procs.getD P pr0).edges.getD E ed0).act = 5
  ·exact (hex h).2
  ·have := hnx (by omega); omega
 have hvl := ((jc m s).1 hf).1.2.1
 have hcl := ((jc m s).1 hf).1.2.2.1
 have hq := jey h4
 have hto := hed.to
 have hT := qon hM hf (p := P) hto (qoo h4)
 have hA : ∀ j, (if j = P then [iv ((m.procs.getD P pr0).edges.getD E ed0).to] else encL (fun n => [iv n]) 0 s.at_ j) = encL (fun n => [iv n]) 0 (s.at_.set P ((m.procs.getD P pr0).edges.getD E ed0).to) j := qcf (fun n => [iv n]) 0 s.at_ P ((m.procs.getD P pr0).edges.getD E ed0).to (by omega)
 refine zK {} 300 Tryz.func24 (fun c0 rdb => ?_)
 ((conv => whnf); refine zT 300 [] (jev s hs) qa ?_)
 (repeat' ((conv => whnf); first | refine zO ?_ | refine Ob.auto ?_ | refine zC 300 (qrv m hM.ok P s hso m.tree.length ((m.procs.getD P pr0).edges.getD E ed0).expr (by omega) (hxl (by omega)) (Nat.sub_le _ _)) ?_ | refine zD 300 ?_ | (apply zB <;> intro hb <;> (try simp [-zd] at hb) <;> try (exfalso; omega))))
 ·((conv => whnf); refine zQ 300 ?_)
  (repeat' ((conv => whnf); first | refine zA ?_ | refine Ob.auto ?_ | (refine CallY.con (qjb (valN m P s m.tree.length ((m.procs.getD P pr0).edges.getD E ed0).expr).1 (m.vars.getD ((m.procs.getD P pr0).edges.getD E ed0).var.toNat vr0).width) (by rfl) leA ?_) | fail))
  have hTe : qn m s P ((m.procs.getD P pr0).edges.getD E ed0) = ⟨s.at_.set P ((m.procs.getD P pr0).edges.getD E ed0).to, s.vars.set ((m.procs.getD P pr0).edges.getD E ed0).var.toNat (trim (valN m P s m.tree.length ((m.procs.getD P pr0).edges.getD E ed0).expr).1 (m.vars.getD ((m.procs.getD P pr0).edges.getD E ed0).var.toNat vr0).width), s.chans, -1⟩ := by
   unfold qn val; simp only; rw [if_pos (by assumption), if_neg (by omega)]
  (conv => whnf)
  refine qou (fun _ => rfl) 300 (fun hg => qoq m hM (qn m s P ((m.procs.getD P pr0).edges.getD E ed0)) hT P h5) (fun hg => ⟨fun _ => ?_, fun _ => ?_, fun _ => trivial, trivial⟩) (fun hg => And.intro (by exact Le.cnd hg) (And.intro (Le.trans (by exact Le.cnd hg) ?_) (And.intro (by exact Le.cnd hg) trivial))) (by rfl) (by kernel_rfl) ?_
  ·exact qfu
  ·exact qfu
  ·rw [hTe]; exact Le.agg ⟨Le.slc (by simp) (fun j hj => hA j), Le.slc (by simp) (fun j hj => qcf (fun n => [iv n]) 0 s.vars ((m.procs.getD P pr0).edges.getD E ed0).var.toNat _ (by omega) j), Le.refl _, Le.refl _, trivial⟩
  (repeat' ((conv => whnf); first | refine Ob.auto ?_ | (apply zB <;> intro hb <;> (try simp [-zd] at hb) <;> try (exfalso; omega))))
  ·refine Le.agg ⟨?_, ?_, ?_, Le.of_eq (congrArg (AV.int _) (if_pos hb).symm), trivial⟩
   ·show Le _ (ints (qn m s P ((m.procs.getD P pr0).edges.getD E ed0)).at_)
    rw [hTe]; exact Le.slc (by simp) (fun j hj => hA j)
   ·show Le _ (ints (qn m s P ((m.procs.getD P pr0).edges.getD E ed0)).vars)
    rw [hTe]; exact Le.slc (by simp) (fun j hj => qcf (fun n => [iv n]) 0 s.vars ((m.procs.getD P pr0).edges.getD E ed0).var.toNat _ (by omega) j)
   ·show Le _ (slcL (fun l => [ints l]) [] 1 (qn m s P ((m.procs.getD P pr0).edges.getD E ed0)).chans)
    rw [hTe]; exact Le.refl _
  ·refine Le.agg ⟨?_, ?_, ?_, Le.of_eq (congrArg (AV.int _) (if_neg (fun h => ?_)).symm), trivial⟩
   ·show Le _ (ints (qn m s P ((m.procs.getD P pr0).edges.getD E ed0)).at_)
    rw [hTe]; exact Le.slc (by simp) (fun j hj => hA j)
   ·show Le _ (ints (qn m s P ((m.procs.getD P pr0).edges.getD E ed0)).vars)
    rw [hTe]; exact Le.slc (by simp) (fun j hj => qcf (fun n => [iv n]) 0 s.vars ((m.procs.getD P pr0).edges.getD E ed0).var.toNat _ (by omega) j)
   ·show Le _ (slcL (fun l => [ints l]) [] 1 (qn m s P ((m.procs.getD P pr0).edges.getD E ed0)).chans)
    rw [hTe]; exact Le.refl _
   ·have := hb h.1; rw [h.2] at this; cases this
 ·have h0 : True := trivial
  have hTe : qn m s P ((m.procs.getD P pr0).edges.getD E ed0) = ⟨s.at_.set P ((m.procs.getD P pr0).edges.getD E ed0).to, s.vars, s.chans, -1⟩ := by
   unfold qn; simp only; rw [if_neg (by assumption), if_neg (by assumption), if_neg (by assumption)]
  (conv => whnf)
  refine qou (fun _ => rfl) 300 (fun hg => qoq m hM (qn m s P ((m.procs.getD P pr0).edges.getD E ed0)) hT P h5) (fun hg => ⟨fun _ => ?_, fun _ => ?_, fun _ => trivial, trivial⟩) (fun hg => And.intro (by exact Le.cnd hg) (And.intro (Le.trans (by exact Le.cnd hg) ?_) (And.intro (by exact Le.cnd hg) trivial))) (by rfl) (by kernel_rfl) ?_
  ·exact qfu
  ·exact qfu
  ·rw [hTe]; exact Le.agg ⟨Le.slc (by simp) (fun j hj => hA j), Le.refl _, Le.refl _, Le.refl _, trivial⟩
  (repeat' ((conv => whnf); first | refine Ob.auto ?_ | (apply zB <;> intro hb <;> (try simp [-zd] at hb) <;> try (exfalso; omega))))
  ·refine Le.agg ⟨?_, ?_, ?_, Le.of_eq (congrArg (AV.int _) (if_pos hb).symm), trivial⟩
   ·show Le _ (ints (qn m s P ((m.procs.getD P pr0).edges.getD E ed0)).at_)
    rw [hTe]; exact Le.slc (by simp) (fun j hj => hA j)
   ·show Le _ (ints (qn m s P ((m.procs.getD P pr0).edges.getD E ed0)).vars)
    rw [hTe]; exact Le.refl _
   ·show Le _ (slcL (fun l => [ints l]) [] 1 (qn m s P ((m.procs.getD P pr0).edges.getD E ed0)).chans)
    rw [hTe]; exact Le.refl _
  ·refine Le.agg ⟨?_, ?_, ?_, Le.of_eq (congrArg (AV.int _) (if_neg (fun h => ?_)).symm), trivial⟩
   ·show Le _ (ints (qn m s P ((m.procs.getD P pr0).edges.getD E ed0)).at_)
    rw [hTe]; exact Le.slc (by simp) (fun j hj => hA j)
   ·show Le _ (ints (qn m s P ((m.procs.getD P pr0).edges.getD E ed0)).vars)
    rw [hTe]; exact Le.refl _
   ·show Le _ (slcL (fun l => [ints l]) [] 1 (qn m s P ((m.procs.getD P pr0).edges.getD E ed0)).chans)
    rw [hTe]; exact Le.refl _
   ·have := hb h.1; rw [h.2] at this; cases this
 ·((conv => whnf); refine zQ 300 ?_)
  have hq3 := hq (by assumption)
  have hq4 : (1 : Int) ≤ ((s.chans.getD ((m.procs.getD P pr0).edges.getD E ed0).chn.toNat []).length : Int) := by omega
  (repeat' ((conv => whnf); first | refine zA ?_ | refine zO ?_ | refine Ob.auto ?_ | (refine CallY.con (qjb ((s.chans.getD ((m.procs.getD P pr0).edges.getD E ed0).chn.toNat []).getD 0 0) (m.vars.getD ((m.procs.getD P pr0).edges.getD E ed0).var.toNat vr0).width) (by rfl) leA ?_) | refine zD 300 ?_ | fail))
  have hTe : qn m s P ((m.procs.getD P pr0).edges.getD E ed0) = ⟨s.at_.set P ((m.procs.getD P pr0).edges.getD E ed0).to, s.vars.set ((m.procs.getD P pr0).edges.getD E ed0).var.toNat (trim ((s.chans.getD ((m.procs.getD P pr0).edges.getD E ed0).chn.toNat []).getD 0 0) (m.vars.getD ((m.procs.getD P pr0).edges.getD E ed0).var.toNat vr0).width), s.chans.set ((m.procs.getD P pr0).edges.getD E ed0).chn.toNat ((s.chans.getD ((m.procs.getD P pr0).edges.getD E ed0).chn.toNat []).drop 1), -1⟩ := by
   unfold qn; simp only; rw [if_neg (by assumption), if_neg (by assumption), if_pos (by assumption)]
  (conv => whnf)
  refine qou (fun _ => rfl) 300 (fun hg => qoq m hM (qn m s P ((m.procs.getD P pr0).edges.getD E ed0)) hT P h5) (fun hg => ⟨fun _ => ?_, fun _ => ?_, fun _ => trivial, trivial⟩) (fun hg => And.intro (by exact Le.cnd hg) (And.intro (Le.trans (by exact Le.cnd hg) ?_) (And.intro (by exact Le.cnd hg) trivial))) (by rfl) (by kernel_rfl) ?_
  ·exact qfu
  ·exact qfu
  ·rw [hTe]; exact Le.agg ⟨Le.slc (by simp) (fun j hj => hA j), Le.slc (by simp) (fun j hj => qcf (fun n => [iv n]) 0 s.vars ((m.procs.getD P pr0).edges.getD E ed0).var.toNat _ (by omega) j), Le.slcL (by simp) (fun j hj => qov (c := ((m.procs.getD P pr0).edges.getD E ed0).chn.toNat) (by omega) j), Le.refl _, trivial⟩
  (repeat' ((conv => whnf); first | refine Ob.auto ?_ | (apply zB <;> intro hb <;> (try simp [-zd] at hb) <;> try (exfalso; omega))))
  ·refine Le.agg ⟨?_, ?_, ?_, Le.of_eq (congrArg (AV.int _) (if_pos hb).symm), trivial⟩
   ·show Le _ (ints (qn m s P ((m.procs.getD P pr0).edges.getD E ed0)).at_)
    rw [hTe]; exact Le.slc (by simp) (fun j hj => hA j)
   ·show Le _ (ints (qn m s P ((m.procs.getD P pr0).edges.getD E ed0)).vars)
    rw [hTe]; exact Le.slc (by simp) (fun j hj => qcf (fun n => [iv n]) 0 s.vars ((m.procs.getD P pr0).edges.getD E ed0).var.toNat _ (by omega) j)
   ·show Le _ (slcL (fun l => [ints l]) [] 1 (qn m s P ((m.procs.getD P pr0).edges.getD E ed0)).chans)
    rw [hTe]; exact Le.slcL (by simp) (fun j hj => qov (c := ((m.procs.getD P pr0).edges.getD E ed0).chn.toNat) (by omega) j)
  ·refine Le.agg ⟨?_, ?_, ?_, Le.of_eq (congrArg (AV.int _) (if_neg (fun h => ?_)).symm), trivial⟩
   ·show Le _ (ints (qn m s P ((m.procs.getD P pr0).edges.getD E ed0)).at_)
    rw [hTe]; exact Le.slc (by simp) (fun j hj => hA j)
   ·show Le _ (ints (qn m s P ((m.procs.getD P pr0).edges.getD E ed0)).vars)
    rw [hTe]; exact Le.slc (by simp) (fun j hj => qcf (fun n => [iv n]) 0 s.vars ((m.procs.getD P pr0).edges.getD E ed0).var.toNat _ (by omega) j)
   ·show Le _ (slcL (fun l => [ints l]) [] 1 (qn m s P ((m.procs.getD P pr0).edges.getD E ed0)).chans)
    rw [hTe]; exact Le.slcL (by simp) (fun j hj => qov (c := ((m.procs.getD P pr0).edges.getD E ed0).chn.toNat) (by omega) j)
   ·have := hb h.1; rw [h.2] at this; cases this
 ·have h0 : True := trivial
  have hTe : qn m s P ((m.procs.getD P pr0).edges.getD E ed0) = ⟨s.at_.set P ((m.procs.getD P pr0).edges.getD E ed0).to, s.vars, s.chans, -1⟩ := by
   unfold qn; simp only; rw [if_neg (by assumption), if_neg (by assumption), if_neg (by assumption)]
  (conv => whnf)
  refine qou (fun _ => rfl) 300 (fun hg => qoq m hM (qn m s P ((m.procs.getD P pr0).edges.getD E ed0)) hT P h5) (fun hg => ⟨fun _ => ?_, fun _ => ?_, fun _ => trivial, trivial⟩) (fun hg => And.intro (by exact Le.cnd hg) (And.intro (Le.trans (by exact Le.cnd hg) ?_) (And.intro (by exact Le.cnd hg) trivial))) (by rfl) (by kernel_rfl) ?_
  ·exact qfu
  ·exact qfu
  ·rw [hTe]; exact Le.agg ⟨Le.slc (by simp) (fun j hj => hA j), Le.refl _, Le.refl _, Le.refl _, trivial⟩
  (repeat' ((conv => whnf); first | refine Ob.auto ?_ | (apply zB <;> intro hb <;> (try simp [-zd] at hb) <;> try (exfalso; omega))))
  ·refine Le.agg ⟨?_, ?_, ?_, Le.of_eq (congrArg (AV.int _) (if_pos hb).symm), trivial⟩
   ·show Le _ (ints (qn m s P ((m.procs.getD P pr0).edges.getD E ed0)).at_)
    rw [hTe]; exact Le.slc (by simp) (fun j hj => hA j)
   ·show Le _ (ints (qn m s P ((m.procs.getD P pr0).edges.getD E ed0)).vars)
    rw [hTe]; exact Le.refl _
   ·show Le _ (slcL (fun l => [ints l]) [] 1 (qn m s P ((m.procs.getD P pr0).edges.getD E ed0)).chans)
    rw [hTe]; exact Le.refl _
  ·refine Le.agg ⟨?_, ?_, ?_, Le.of_eq (congrArg (AV.int _) (if_neg (fun h => ?_)).symm), trivial⟩
   ·show Le _ (ints (qn m s P ((m.procs.getD P pr0).edges.getD E ed0)).at_)
    rw [hTe]; exact Le.slc (by simp) (fun j hj => hA j)
   ·show Le _ (ints (qn m s P ((m.procs.getD P pr0).edges.getD E ed0)).vars)
    rw [hTe]; exact Le.refl _
   ·show Le _ (slcL (fun l => [ints l]) [] 1 (qn m s P ((m.procs.getD P pr0).edges.getD E ed0)).chans)
    rw [hTe]; exact Le.refl _
   ·have := hb h.1; rw [h.2] at this; cases this
theorem jsj (m : Md) (hM : ModOk m) (s : Stt) (c : Nat) (hf : qg m s = true) (h : ji m s ⟨2, 0, 0, c⟩ = true) : Con Tryz.prog 24 [m.av, s.av, (⟨2, 0, 0, c⟩ : Mv).av] (qv m s ⟨2, 0, 0, c⟩).av := by
 have hs := qbp hM hf
 unfold ji at h
 rw [if_neg (by simp), if_pos (.inr rfl), Bool.and_eq_true] at h
 obtain ⟨h2, h3⟩ := h
 have h2 := of_decide_eq_true h2
 simp only at h2
 have hcl := ((jc m s).1 hf).1.2.2.1
 have hq : 0 < (s.chans.getD c []).length := by
  unfold qid qlen at h3
  simp only [Int.toNat_natCast] at h3
  rw [if_neg (by decide)] at h3
  simp only [Bool.and_eq_true, decide_eq_true_eq] at h3
  omega
 have hcc : c < s.chans.length := by omega
 have hl := hs.l _ (qi s.chans c [] hcc)
 refine zK {} 300 Tryz.func24 (fun c0 rdb => ?_)
 ((conv => whnf); refine qfr (fun _ => rfl) 300 [] (jew s hs) (by kernel_rfl) leA qa (by exact qb rfl) (by exact qck ⟨fun _ _ => rfl, trivial⟩) (by kernel_rfl) ?_)
 (repeat' ((conv => whnf); first | refine zO ?_ | refine Ob.auto ?_ | refine zD 300 ?_ | (apply zB <;> intro hb <;> (try simp [-zd] at hb) <;> try (exfalso; omega)) | refine Ob.intro ?_ ?_ | fail))
 ·refine ⟨hcc, ⟨rfl, rfl⟩, show (s.chans.getD c []).length + 1 ≤ _ by omega, ?_⟩
  refine Nat.le_trans (Nat.mul_le_mul_right _ (show (s.chans.getD c []).length + 1 ≤ 4000001 by omega)) ?_
  dsimp only; decide +kernel
 ·exact ⟨⟨⟨rfl, rfl⟩, hcc⟩, hcc, by simp [upd], by simp [upd]⟩
 ·refine ⟨⟨trivial, ⟨rfl, rfl⟩, trivial⟩, ⟨trivial, ⟨rfl, rfl⟩, trivial⟩, ⟨trivial, ⟨rfl, rfl⟩, fun k hk => ?_⟩, trivial, trivial⟩
  show allP _ (if k = c then _ else _)
  by_cases hkc : k = c
  ·rw [if_pos hkc]
   exact ⟨⟨hcc, ⟨(if_pos rfl).symm, (if_pos rfl).symm⟩, trivial⟩, trivial⟩
  ·rw [if_neg hkc]
   exact ⟨⟨hk, ⟨(if_neg hkc).symm, (if_neg hkc).symm⟩, trivial⟩, trivial⟩
 have hst : qv m s ⟨2, 0, 0, c⟩ = { s with chans := s.chans.set c (s.chans.getD c [] ++ [(s.chans.getD c []).getD 0 0]), holder := -1 } := (if_neg (by simp)).trans (if_pos rfl)
 rw [hst]
 refine Le.agg ⟨Le.refl _, Le.refl _, Le.slcL (by simp) (fun j hj => ?_), Le.of_eq (congrArg (AV.int _) h2.1), trivial⟩
 rw [← qcf (fun c => [ints c]) [] s.chans c _ hcc j]
 show LeL (List.map _ (if j = c then _ else _)) _
 by_cases hjc : j = c
 ·rw [if_pos hjc, if_pos hjc]
  refine ⟨Le.slc (show (s.chans.getD c []).length + 1 = _ by rw [List.length_append, List.length_singleton]) (fun q hq => ?_), trivial⟩
  have hq' : q < (s.chans.getD c []).length + 1 := hq
  refine (congrFun (if_pos rfl) q).trans ?_
  exact qmc rfl hq'
 ·rw [if_neg hjc, if_neg hjc]
  refine ⟨Le.slc rfl (fun q hq => congrFun (if_neg hjc) q), trivial⟩
theorem jsk (m : Md) (hM : ModOk m) (s : Stt) (P E : Nat) (hf : qg m s = true) (h : ji m s ⟨0, P, E, 0⟩ = true) (ha : ((m.procs.getD P pr0).edges.getD E ed0).act = 2) : Con Tryz.prog 24 [m.av, s.av, (⟨0, P, E, 0⟩ : Mv).av] (qbn m s P ((m.procs.getD P pr0).edges.getD E ed0)).av := by
 have hs := qbp hM hf
 unfold ji at h
 rw [if_pos rfl, Bool.and_eq_true, Bool.and_eq_true] at h
 obtain ⟨h2, h3, h4⟩ := h
 have h3 := of_decide_eq_true h3
 simp only at h3
 have h5 : P < m.procs.length := by omega
 have h6 : E < (m.procs.getD P pr0).edges.length := by have := h3.2.2.2; rw [Int.toNat_natCast] at this; exact Int.ofNat_lt.1 this
 have hed : EdOk m.tree.length m.vars.length m.chans.length (m.procs.getD P pr0).places ((m.procs.getD P pr0).edges.getD E ed0) := edOk hM h5 h6
 have h4 : canB m s P ((m.procs.getD P pr0).edges.getD E ed0) = true := h4
 have hso := qkp hM.ok hf
 have hat : s.at_.length = m.procs.length := ((jc m s).1 hf).1.1
 have hex := hed.ex (.inr (.inl ha))
 have hch := hed.chn (.inl ha)
 have hto := hed.to
 have hcl := ((jc m s).1 hf).1.2.2.1
 have hT := qon hM hf (p := P) hto (qoo h4)
 have hA : ∀ j, (if j = P then [iv ((m.procs.getD P pr0).edges.getD E ed0).to] else encL (fun n => [iv n]) 0 s.at_ j) = encL (fun n => [iv n]) 0 (s.at_.set P ((m.procs.getD P pr0).edges.getD E ed0).to) j := qcf (fun n => [iv n]) 0 s.at_ P ((m.procs.getD P pr0).edges.getD E ed0).to (by omega)
 refine zK {} 300 Tryz.func24 (fun c0 rdb => ?_)
 ((conv => whnf); refine qfr (fun _ => rfl) 300 [] (jew s hs) (by kernel_rfl) leA qa (by exact qb rfl) (by exact qck ⟨fun _ _ => rfl, trivial⟩) (by kernel_rfl) ?_)
 (repeat' ((conv => whnf); first | refine zO ?_ | refine Ob.auto ?_ | refine zC 300 (qrv m hM.ok P s hso m.tree.length ((m.procs.getD P pr0).edges.getD E ed0).expr (by omega) (by omega) (Nat.sub_le _ _)) ?_ | refine zD 300 ?_ | (apply zB <;> intro hb <;> (try simp [-zd] at hb) <;> try (exfalso; omega))))
 ((conv => whnf); refine qax (fun _ => rfl) (by kernel_rfl) 300 [.con (iv (trim (valN m P s m.tree.length ((m.procs.getD P pr0).edges.getD E ed0).expr).1 (m.chans.getD ((m.procs.getD P pr0).edges.getD E ed0).chn.toNat ch0).width))] (by kernel_rfl) ?_)
 have hcc : ((m.procs.getD P pr0).edges.getD E ed0).chn.toNat < s.chans.length := by omega
 have hl := hs.l _ (qi s.chans ((m.procs.getD P pr0).edges.getD E ed0).chn.toNat [] hcc)
 (repeat' ((conv => whnf); first | refine Ob.auto ?_ | (refine Ob.intro (by (first | exact ⟨by omega, by omega⟩ | exact ⟨_, qjb (valN m P s m.tree.length ((m.procs.getD P pr0).edges.getD E ed0).expr).1 (m.chans.getD ((m.procs.getD P pr0).edges.getD E ed0).chn.toNat ch0).width, by rfl, LeL.refl _⟩)) ?_) | refine Ob.intro ?_ ?_ | fail))
 ·refine ⟨hcc, ⟨rfl, rfl⟩, show (s.chans.getD ((m.procs.getD P pr0).edges.getD E ed0).chn.toNat []).length + 1 ≤ _ by omega, ?_⟩
  refine Nat.le_trans (Nat.mul_le_mul_right _ (show (s.chans.getD ((m.procs.getD P pr0).edges.getD E ed0).chn.toNat []).length + 1 ≤ 4000001 by omega)) ?_
  dsimp only; decide +kernel
 ·exact ⟨⟨⟨rfl, rfl⟩, hcc⟩, hcc, by simp [upd], by simp [upd]⟩
 have hTe : qn m s P ((m.procs.getD P pr0).edges.getD E ed0) = ⟨s.at_.set P ((m.procs.getD P pr0).edges.getD E ed0).to, s.vars, s.chans.set ((m.procs.getD P pr0).edges.getD E ed0).chn.toNat (s.chans.getD ((m.procs.getD P pr0).edges.getD E ed0).chn.toNat [] ++ [trim (valN m P s m.tree.length ((m.procs.getD P pr0).edges.getD E ed0).expr).1 (m.chans.getD ((m.procs.getD P pr0).edges.getD E ed0).chn.toNat ch0).width]), -1⟩ := by
  unfold qn val; simp only; rw [if_neg (by omega), if_pos ha, if_neg (by omega)]
 (conv => whnf)
 refine qou (fun _ => rfl) 300 (fun hg => qoq m hM (qn m s P ((m.procs.getD P pr0).edges.getD E ed0)) hT P h5) (fun hg => ⟨fun _ => ?_, fun _ => ?_, fun _ => trivial, trivial⟩) (fun hg => And.intro (by exact Le.cnd hg) (And.intro (Le.trans (by exact Le.cnd hg) ?_) (And.intro (by exact Le.cnd hg) trivial))) (by rfl) (by kernel_rfl) ?_
 ·exact qfu
 ·refine ⟨⟨trivial, ⟨rfl, rfl⟩, trivial⟩, ⟨trivial, ⟨rfl, rfl⟩, trivial⟩, ⟨trivial, ⟨rfl, rfl⟩, fun k hk => ?_⟩, trivial, trivial⟩
  show allP _ (if k = ((m.procs.getD P pr0).edges.getD E ed0).chn.toNat then _ else _)
  by_cases hkc : k = ((m.procs.getD P pr0).edges.getD E ed0).chn.toNat
  ·rw [if_pos hkc]
   exact ⟨⟨hcc, ⟨(if_pos rfl).symm, (if_pos rfl).symm⟩, trivial⟩, trivial⟩
  ·rw [if_neg hkc]
   exact ⟨⟨hk, ⟨(if_neg hkc).symm, (if_neg hkc).symm⟩, trivial⟩, trivial⟩
 ·rw [hTe]
  exact Le.agg ⟨Le.slc (by simp) (fun j hj => hA j), Le.refl _, Le.slcL (by simp) (fun j hj => by
   rw [← qcf (fun c => [ints c]) [] s.chans ((m.procs.getD P pr0).edges.getD E ed0).chn.toNat _ hcc j]
   show LeL (List.map _ (if j = ((m.procs.getD P pr0).edges.getD E ed0).chn.toNat then _ else _)) _
   by_cases hjc : j = ((m.procs.getD P pr0).edges.getD E ed0).chn.toNat
   ·rw [if_pos hjc, if_pos hjc]
    refine ⟨Le.slc (show (s.chans.getD ((m.procs.getD P pr0).edges.getD E ed0).chn.toNat []).length + 1 = _ by rw [List.length_append, List.length_singleton]) (fun q hq => ?_), trivial⟩
    have hq' : q < (s.chans.getD ((m.procs.getD P pr0).edges.getD E ed0).chn.toNat []).length + 1 := hq
    refine (congrFun (if_pos rfl) q).trans ?_
    exact qmc rfl hq'
   ·rw [if_neg hjc, if_neg hjc]
    refine ⟨Le.slc rfl (fun q hq => congrFun (if_neg hjc) q), trivial⟩), Le.refl _, trivial⟩
 (repeat' ((conv => whnf); first | refine Ob.auto ?_ | (apply zB <;> intro hb <;> (try simp [-zd] at hb) <;> try (exfalso; omega)) | refine Ob.intro ?_ ?_ | fail))
 ·refine ⟨⟨trivial, ⟨rfl, rfl⟩, trivial⟩, ⟨trivial, ⟨rfl, rfl⟩, trivial⟩, ⟨trivial, ⟨rfl, rfl⟩, fun k hk => ?_⟩, trivial, trivial⟩
  show allP _ (if k = ((m.procs.getD P pr0).edges.getD E ed0).chn.toNat then _ else _)
  by_cases hkc : k = ((m.procs.getD P pr0).edges.getD E ed0).chn.toNat
  ·rw [if_pos hkc]
   exact ⟨⟨hcc, ⟨(if_pos rfl).symm, (if_pos rfl).symm⟩, trivial⟩, trivial⟩
  ·rw [if_neg hkc]
   exact ⟨⟨hk, ⟨(if_neg hkc).symm, (if_neg hkc).symm⟩, trivial⟩, trivial⟩
 ·refine Le.agg ⟨?_, ?_, ?_, Le.of_eq (congrArg (AV.int _) (if_pos hb).symm), trivial⟩
  ·show Le _ (ints (qn m s P ((m.procs.getD P pr0).edges.getD E ed0)).at_)
   rw [hTe]; exact Le.slc (by simp) (fun j hj => hA j)
  ·show Le _ (ints (qn m s P ((m.procs.getD P pr0).edges.getD E ed0)).vars)
   rw [hTe]; exact Le.refl _
  ·show Le _ (slcL (fun l => [ints l]) [] 1 (qn m s P ((m.procs.getD P pr0).edges.getD E ed0)).chans)
   rw [hTe]
   exact Le.slcL (by simp) (fun j hj => by
    rw [← qcf (fun c => [ints c]) [] s.chans ((m.procs.getD P pr0).edges.getD E ed0).chn.toNat _ hcc j]
    show LeL (List.map _ (if j = ((m.procs.getD P pr0).edges.getD E ed0).chn.toNat then _ else _)) _
    by_cases hjc : j = ((m.procs.getD P pr0).edges.getD E ed0).chn.toNat
    ·rw [if_pos hjc, if_pos hjc]
     refine ⟨Le.slc (show (s.chans.getD ((m.procs.getD P pr0).edges.getD E ed0).chn.toNat []).length + 1 = _ by rw [List.length_append, List.length_singleton]) (fun q hq => ?_), trivial⟩
     have hq' : q < (s.chans.getD ((m.procs.getD P pr0).edges.getD E ed0).chn.toNat []).length + 1 := hq
     refine (congrFun (if_pos rfl) q).trans ?_
     exact qmc rfl hq'
    ·rw [if_neg hjc, if_neg hjc]
     refine ⟨Le.slc rfl (fun q hq => congrFun (if_neg hjc) q), trivial⟩)
 ·refine ⟨⟨trivial, ⟨rfl, rfl⟩, trivial⟩, ⟨trivial, ⟨rfl, rfl⟩, trivial⟩, ⟨trivial, ⟨rfl, rfl⟩, fun k hk => ?_⟩, trivial, trivial⟩
  show allP _ (if k = ((m.procs.getD P pr0).edges.getD E ed0).chn.toNat then _ else _)
  by_cases hkc : k = ((m.procs.getD P pr0).edges.getD E ed0).chn.toNat
  ·rw [if_pos hkc]
   exact ⟨⟨hcc, ⟨(if_pos rfl).symm, (if_pos rfl).symm⟩, trivial⟩, trivial⟩
  ·rw [if_neg hkc]
   exact ⟨⟨hk, ⟨(if_neg hkc).symm, (if_neg hkc).symm⟩, trivial⟩, trivial⟩
 ·refine Le.agg ⟨?_, ?_, ?_, Le.of_eq (congrArg (AV.int _) (if_neg (fun h => by have := hb h.1; rw [h.2] at this; cases this)).symm), trivial⟩
  ·show Le _ (ints (qn m s P ((m.procs.getD P pr0).edges.getD E ed0)).at_)
   rw [hTe]; exact Le.slc (by simp) (fun j hj => hA j)
  ·show Le _ (ints (qn m s P ((m.procs.getD P pr0).edges.getD E ed0)).vars)
   rw [hTe]; exact Le.refl _
  ·show Le _ (slcL (fun l => [ints l]) [] 1 (qn m s P ((m.procs.getD P pr0).edges.getD E ed0)).chans)
   rw [hTe]
   exact Le.slcL (by simp) (fun j hj => by
    rw [← qcf (fun c => [ints c]) [] s.chans ((m.procs.getD P pr0).edges.getD E ed0).chn.toNat _ hcc j]
    show LeL (List.map _ (if j = ((m.procs.getD P pr0).edges.getD E ed0).chn.toNat then _ else _)) _
    by_cases hjc : j = ((m.procs.getD P pr0).edges.getD E ed0).chn.toNat
    ·rw [if_pos hjc, if_pos hjc]
     refine ⟨Le.slc (show (s.chans.getD ((m.procs.getD P pr0).edges.getD E ed0).chn.toNat []).length + 1 = _ by rw [List.length_append, List.length_singleton]) (fun q hq => ?_), trivial⟩
     have hq' : q < (s.chans.getD ((m.procs.getD P pr0).edges.getD E ed0).chn.toNat []).length + 1 := hq
     refine (congrFun (if_pos rfl) q).trans ?_
     exact qmc rfl hq'
    ·rw [if_neg hjc, if_neg hjc]
     refine ⟨Le.slc rfl (fun q hq => congrFun (if_neg hjc) q), trivial⟩)
theorem qws (m : Md) (hM : ModOk m) (s : Stt) (v : Mv) (hf : qg m s = true) (h : ji m s v = true) : Con Tryz.prog 24 [m.av, s.av, v.av] (qv m s v).av := by
 by_cases hk : v.kind = 1
 ·exact jsh m hM s v hf h hk
 ·have h' := h
  unfold ji at h
  split at h
  ·rename_i h0
   rw [Bool.and_eq_true, Bool.and_eq_true] at h
   obtain ⟨ha, hb, _⟩ := h
   have h2 := of_decide_eq_true ha
   have h3 := of_decide_eq_true hb
   clear ha hb
   obtain ⟨k, p, e, c⟩ := v
   simp only at h0 h2 h3
   obtain ⟨P, rfl⟩ := Int.eq_ofNat_of_zero_le h3.1
   obtain ⟨E, rfl⟩ := Int.eq_ofNat_of_zero_le h3.2.2.1
   obtain ⟨h2, _⟩ := h2
   subst h0 h2
   have hst : qv m s ⟨0, P, E, 0⟩ = qbn m s P ((m.procs.getD P pr0).edges.getD E ed0) := rfl
   rw [hst]
   by_cases ha : ((m.procs.getD P pr0).edges.getD E ed0).act = 2
   ·exact jsk m hM s P E hf h' ha
   ·exact jsi m hM s P E hf h' ha
  ·split at h
   ·rename_i h0
    rw [Bool.and_eq_true] at h
    obtain ⟨ha, _⟩ := h
    have h2 := of_decide_eq_true ha
    clear ha
    obtain ⟨k, p, e, c⟩ := v
    simp only at h0 h2 hk
    obtain ⟨C, rfl⟩ := Int.eq_ofNat_of_zero_le h2.2.2.2.1
    obtain rfl : k = 2 := by omega
    obtain rfl : p = 0 := h2.2.1
    obtain rfl : e = 0 := h2.2.2.1
    exact jsj m hM s C hf h'
   ·cases h
end Go.Proofs.YtdoaagphhjggbaaGreat
end
