/- Some texts of the library, one behind the other. -/
import Derived.Test.YtdoaagphhjggbaaGreatQSr5
import Derived.Test.YtdoaagphhjggbaaGreatQ38
import Derived.Test.YtdoaagphhjggbaaGreatQ39
import Derived.Test.YtdoaagphhjggbaaGreatQ2
section
/- Contracts: what a move that sends or copies does, by the document's answer. -/
namespace Go.Proofs.YtdoaagphhjggbaaGreat
open List renaming getD_eq_getElem?_getD → zd
open Go Go.Sx Go.RowKit Go.St
set_option maxRecDepth 100000
set_option maxHeartbeats 4000000
theorem jqy (m : Md) (hM : ModOk m) (s : Stt) (c : Nat) (hf : qq m s = true) (h : qah m s ⟨2, 0, 0, c⟩ = true) : Con Tryz.prog 24 [m.av, s.av, (⟨2, 0, 0, c⟩ : Mv).av] (qcc m s ⟨2, 0, 0, c⟩).av := by
 have hs := qbt hM hf
 unfold qah at h
 rw [if_neg (by simp), if_pos (.inr rfl), Bool.and_eq_true] at h
 obtain ⟨h2, h3⟩ := h
 have h2 := of_decide_eq_true h2
 simp only at h2
 have hcl := ((jj m s).1 hf).1.2.2.1
 have hq : 0 < (s.chans.getD c []).length := by
  unfold qim qlen at h3
  simp only [Int.toNat_natCast] at h3
  rw [if_neg (by decide)] at h3
  simp only [Bool.and_eq_true, decide_eq_true_eq] at h3
  omega
 have hcc : c < s.chans.length := by omega
 have hl := hs.l _ (qj s.chans c [] hcc)
 refine qc (T := tab Tryz.prog) (C := {}) 300 (fun _ => rfl) Tryz.func24 rfl (by kernel_rfl) (by kernel_rfl) (fun c0 rdb => ?_)
 (repeat' ((conv => whnf); first | exact trivial))
 ((conv => whnf); refine qig (fun _ => rfl) 300 [] (jeg s hs) (by kernel_rfl) leA qa (by exact qb rfl) (by exact qlr ⟨fun _ _ => rfl, trivial⟩) (by kernel_rfl) ?_)
 (repeat' ((conv => whnf); first | refine zO ?_ | refine Ob.auto ?_ | refine zD 300 ?_ | (apply zB <;> intro hb <;> (try simp [-zd] at hb) <;> try (exfalso; omega)) | refine Ob.intro ?_ ?_ | fail))
 ·refine ⟨hcc, ⟨rfl, rfl⟩, show (s.chans.getD c []).length + 1 ≤ _ by omega, ?_⟩
  refine Nat.le_trans (Nat.mul_le_mul_right _ (show (s.chans.getD c []).length + 1 ≤ 4000001 by omega)) ?_
  dsimp only; decide +kernel
 ·exact ⟨⟨⟨rfl, rfl⟩, hcc⟩, hcc, by simp [upd], by simp [upd]⟩
 ·refine ⟨⟨trivial, ⟨rfl, rfl⟩, trivial⟩, ⟨trivial, ⟨rfl, rfl⟩, trivial⟩, ⟨trivial, ⟨rfl, rfl⟩, fun k hk => ?_⟩, trivial, trivial⟩
  show allP _ (if k = c then _ else _)
  by_cases hkc : k = c
  ·rw [if_pos hkc]
   exact ⟨⟨hcc, ⟨(if_pos rfl).symm, (if_pos rfl).symm⟩, trivial⟩, trivial⟩
  ·rw [if_neg hkc]
   exact ⟨⟨hk, ⟨(if_neg hkc).symm, (if_neg hkc).symm⟩, trivial⟩, trivial⟩
 have hst : qcc m s ⟨2, 0, 0, c⟩ = { s with chans := s.chans.set c (s.chans.getD c [] ++ [(s.chans.getD c []).getD 0 0]), holder := -1 } := (if_neg (by simp)).trans (if_pos rfl)
 rw [hst]
 refine Le.agg ⟨Le.refl _, Le.refl _, Le.slcL (by simp) (fun j hj => ?_), Le.of_eq (congrArg (AV.int _) h2.1), trivial⟩
 rw [← qbz (fun c => [ints c]) [] s.chans c _ hcc j]
 show LeL (List.map _ (if j = c then _ else _)) _
 by_cases hjc : j = c
 ·rw [if_pos hjc, if_pos hjc]
  refine ⟨Le.slc (show (s.chans.getD c []).length + 1 = _ by rw [List.length_append, List.length_singleton]) (fun q hq => ?_), trivial⟩
  have hq' : q < (s.chans.getD c []).length + 1 := hq
  refine (congrFun (if_pos rfl) q).trans ?_
  exact qls rfl hq'
 ·rw [if_neg hjc, if_neg hjc]
  refine ⟨Le.slc rfl (fun q hq => congrFun (if_neg hjc) q), trivial⟩
theorem jqz (m : Md) (hM : ModOk m) (s : Stt) (P E : Nat) (hf : qq m s = true) (h : qah m s ⟨0, P, E, 0⟩ = true) (ha : ((m.procs.getD P Pr.none).edges.getD E Ed.none).act = 2) : Con Tryz.prog 24 [m.av, s.av, (⟨0, P, E, 0⟩ : Mv).av] (qec m s P ((m.procs.getD P Pr.none).edges.getD E Ed.none)).av := by
 have hs := qbt hM hf
 unfold qah at h
 rw [if_pos rfl, Bool.and_eq_true, Bool.and_eq_true] at h
 obtain ⟨h2, h3, h4⟩ := h
 have h3 := of_decide_eq_true h3
 simp only at h3
 have h5 : P < m.procs.length := by omega
 have h6 : E < (m.procs.getD P Pr.none).edges.length := by have := h3.2.2.2; rw [Int.toNat_natCast] at this; exact Int.ofNat_lt.1 this
 have hed : EdOk m.tree.length m.vars.length m.chans.length (m.procs.getD P Pr.none).places ((m.procs.getD P Pr.none).edges.getD E Ed.none) := edOk hM h5 h6
 have h4 : canB m s P ((m.procs.getD P Pr.none).edges.getD E Ed.none) = true := h4
 have hso := qln hM.ok hf
 have hat : s.at_.length = m.procs.length := ((jj m s).1 hf).1.1
 have hex := hed.ex (.inr (.inl ha))
 have hch := hed.chn (.inl ha)
 have hto := hed.to
 have hcl := ((jj m s).1 hf).1.2.2.1
 have hT := qod hM hf (p := P) hto (qoe h4)
 have hA : ∀ j, (if j = P then [iv ((m.procs.getD P Pr.none).edges.getD E Ed.none).to] else encL (fun n => [iv n]) 0 s.at_ j) = encL (fun n => [iv n]) 0 (s.at_.set P ((m.procs.getD P Pr.none).edges.getD E Ed.none).to) j := qbz (fun n => [iv n]) 0 s.at_ P ((m.procs.getD P Pr.none).edges.getD E Ed.none).to (by omega)
 refine qc (T := tab Tryz.prog) (C := {}) 300 (fun _ => rfl) Tryz.func24 rfl (by kernel_rfl) (by kernel_rfl) (fun c0 rdb => ?_)
 (repeat' ((conv => whnf); first | exact trivial))
 ((conv => whnf); refine qig (fun _ => rfl) 300 [] (jeg s hs) (by kernel_rfl) leA qa (by exact qb rfl) (by exact qlr ⟨fun _ _ => rfl, trivial⟩) (by kernel_rfl) ?_)
 (repeat' ((conv => whnf); first | refine zO ?_ | refine Ob.auto ?_ | refine zC 300 (qvk m hM.ok P s hso m.tree.length ((m.procs.getD P Pr.none).edges.getD E Ed.none).expr (by omega) (by omega) (Nat.sub_le _ _)) ?_ | refine zD 300 ?_ | (apply zB <;> intro hb <;> (try simp [-zd] at hb) <;> try (exfalso; omega))))
 ((conv => whnf); refine qaw (fun _ => rfl) (by kernel_rfl) 300 [.con (iv (trim (valN m P s m.tree.length ((m.procs.getD P Pr.none).edges.getD E Ed.none).expr).1 (m.chans.getD ((m.procs.getD P Pr.none).edges.getD E Ed.none).chn.toNat Ch.none).width))] (by kernel_rfl) ?_)
 have hcc : ((m.procs.getD P Pr.none).edges.getD E Ed.none).chn.toNat < s.chans.length := by omega
 have hl := hs.l _ (qj s.chans ((m.procs.getD P Pr.none).edges.getD E Ed.none).chn.toNat [] hcc)
 (repeat' ((conv => whnf); first | refine Ob.auto ?_ | (refine Ob.intro (by (first | exact ⟨by omega, by omega⟩ | exact ⟨_, qex (valN m P s m.tree.length ((m.procs.getD P Pr.none).edges.getD E Ed.none).expr).1 (m.chans.getD ((m.procs.getD P Pr.none).edges.getD E Ed.none).chn.toNat Ch.none).width, by rfl, LeL.refl _⟩)) ?_) | refine Ob.intro ?_ ?_ | fail))
 ·refine ⟨hcc, ⟨rfl, rfl⟩, show (s.chans.getD ((m.procs.getD P Pr.none).edges.getD E Ed.none).chn.toNat []).length + 1 ≤ _ by omega, ?_⟩
  refine Nat.le_trans (Nat.mul_le_mul_right _ (show (s.chans.getD ((m.procs.getD P Pr.none).edges.getD E Ed.none).chn.toNat []).length + 1 ≤ 4000001 by omega)) ?_
  dsimp only; decide +kernel
 ·exact ⟨⟨⟨rfl, rfl⟩, hcc⟩, hcc, by simp [upd], by simp [upd]⟩
 have hTe : qo m s P ((m.procs.getD P Pr.none).edges.getD E Ed.none) = ⟨s.at_.set P ((m.procs.getD P Pr.none).edges.getD E Ed.none).to, s.vars, s.chans.set ((m.procs.getD P Pr.none).edges.getD E Ed.none).chn.toNat (s.chans.getD ((m.procs.getD P Pr.none).edges.getD E Ed.none).chn.toNat [] ++ [trim (valN m P s m.tree.length ((m.procs.getD P Pr.none).edges.getD E Ed.none).expr).1 (m.chans.getD ((m.procs.getD P Pr.none).edges.getD E Ed.none).chn.toNat Ch.none).width]), -1⟩ := by
  unfold qo val; simp only; rw [if_neg (by omega), if_pos ha, if_neg (by omega)]
 (conv => whnf)
 refine qok (fun _ => rfl) 300 (fun hg => qoj m hM (qo m s P ((m.procs.getD P Pr.none).edges.getD E Ed.none)) hT P h5) (fun hg => ⟨fun _ => ?_, fun _ => ?_, fun _ => trivial, trivial⟩) (fun hg => And.intro (by exact Le.cnd hg) (And.intro (Le.trans (by exact Le.cnd hg) ?_) (And.intro (by exact Le.cnd hg) trivial))) (by rfl) (by kernel_rfl) ?_
 ·exact qfi
 ·refine ⟨⟨trivial, ⟨rfl, rfl⟩, trivial⟩, ⟨trivial, ⟨rfl, rfl⟩, trivial⟩, ⟨trivial, ⟨rfl, rfl⟩, fun k hk => ?_⟩, trivial, trivial⟩
  show allP _ (if k = ((m.procs.getD P Pr.none).edges.getD E Ed.none).chn.toNat then _ else _)
  by_cases hkc : k = ((m.procs.getD P Pr.none).edges.getD E Ed.none).chn.toNat
  ·rw [if_pos hkc]
   exact ⟨⟨hcc, ⟨(if_pos rfl).symm, (if_pos rfl).symm⟩, trivial⟩, trivial⟩
  ·rw [if_neg hkc]
   exact ⟨⟨hk, ⟨(if_neg hkc).symm, (if_neg hkc).symm⟩, trivial⟩, trivial⟩
 ·rw [hTe]
  exact Le.agg ⟨Le.slc (by simp) (fun j hj => hA j), Le.refl _, Le.slcL (by simp) (fun j hj => by
   rw [← qbz (fun c => [ints c]) [] s.chans ((m.procs.getD P Pr.none).edges.getD E Ed.none).chn.toNat _ hcc j]
   show LeL (List.map _ (if j = ((m.procs.getD P Pr.none).edges.getD E Ed.none).chn.toNat then _ else _)) _
   by_cases hjc : j = ((m.procs.getD P Pr.none).edges.getD E Ed.none).chn.toNat
   ·rw [if_pos hjc, if_pos hjc]
    refine ⟨Le.slc (show (s.chans.getD ((m.procs.getD P Pr.none).edges.getD E Ed.none).chn.toNat []).length + 1 = _ by rw [List.length_append, List.length_singleton]) (fun q hq => ?_), trivial⟩
    have hq' : q < (s.chans.getD ((m.procs.getD P Pr.none).edges.getD E Ed.none).chn.toNat []).length + 1 := hq
    refine (congrFun (if_pos rfl) q).trans ?_
    exact qls rfl hq'
   ·rw [if_neg hjc, if_neg hjc]
    refine ⟨Le.slc rfl (fun q hq => congrFun (if_neg hjc) q), trivial⟩), Le.refl _, trivial⟩
 (repeat' ((conv => whnf); first | refine Ob.auto ?_ | (apply zB <;> intro hb <;> (try simp [-zd] at hb) <;> try (exfalso; omega)) | refine Ob.intro ?_ ?_ | fail))
 ·refine ⟨⟨trivial, ⟨rfl, rfl⟩, trivial⟩, ⟨trivial, ⟨rfl, rfl⟩, trivial⟩, ⟨trivial, ⟨rfl, rfl⟩, fun k hk => ?_⟩, trivial, trivial⟩
  show allP _ (if k = ((m.procs.getD P Pr.none).edges.getD E Ed.none).chn.toNat then _ else _)
  by_cases hkc : k = ((m.procs.getD P Pr.none).edges.getD E Ed.none).chn.toNat
  ·rw [if_pos hkc]
   exact ⟨⟨hcc, ⟨(if_pos rfl).symm, (if_pos rfl).symm⟩, trivial⟩, trivial⟩
  ·rw [if_neg hkc]
   exact ⟨⟨hk, ⟨(if_neg hkc).symm, (if_neg hkc).symm⟩, trivial⟩, trivial⟩
 ·refine Le.agg ⟨?_, ?_, ?_, Le.of_eq (congrArg (AV.int _) (if_pos hb).symm), trivial⟩
  ·show Le _ (ints (qo m s P ((m.procs.getD P Pr.none).edges.getD E Ed.none)).at_)
   rw [hTe]; exact Le.slc (by simp) (fun j hj => hA j)
  ·show Le _ (ints (qo m s P ((m.procs.getD P Pr.none).edges.getD E Ed.none)).vars)
   rw [hTe]; exact Le.refl _
  ·show Le _ (slcL (fun l => [ints l]) [] 1 (qo m s P ((m.procs.getD P Pr.none).edges.getD E Ed.none)).chans)
   rw [hTe]
   exact Le.slcL (by simp) (fun j hj => by
    rw [← qbz (fun c => [ints c]) [] s.chans ((m.procs.getD P Pr.none).edges.getD E Ed.none).chn.toNat _ hcc j]
    show LeL (List.map _ (if j = ((m.procs.getD P Pr.none).edges.getD E Ed.none).chn.toNat then _ else _)) _
    by_cases hjc : j = ((m.procs.getD P Pr.none).edges.getD E Ed.none).chn.toNat
    ·rw [if_pos hjc, if_pos hjc]
     refine ⟨Le.slc (show (s.chans.getD ((m.procs.getD P Pr.none).edges.getD E Ed.none).chn.toNat []).length + 1 = _ by rw [List.length_append, List.length_singleton]) (fun q hq => ?_), trivial⟩
     have hq' : q < (s.chans.getD ((m.procs.getD P Pr.none).edges.getD E Ed.none).chn.toNat []).length + 1 := hq
     refine (congrFun (if_pos rfl) q).trans ?_
     exact qls rfl hq'
    ·rw [if_neg hjc, if_neg hjc]
     refine ⟨Le.slc rfl (fun q hq => congrFun (if_neg hjc) q), trivial⟩)
 ·refine ⟨⟨trivial, ⟨rfl, rfl⟩, trivial⟩, ⟨trivial, ⟨rfl, rfl⟩, trivial⟩, ⟨trivial, ⟨rfl, rfl⟩, fun k hk => ?_⟩, trivial, trivial⟩
  show allP _ (if k = ((m.procs.getD P Pr.none).edges.getD E Ed.none).chn.toNat then _ else _)
  by_cases hkc : k = ((m.procs.getD P Pr.none).edges.getD E Ed.none).chn.toNat
  ·rw [if_pos hkc]
   exact ⟨⟨hcc, ⟨(if_pos rfl).symm, (if_pos rfl).symm⟩, trivial⟩, trivial⟩
  ·rw [if_neg hkc]
   exact ⟨⟨hk, ⟨(if_neg hkc).symm, (if_neg hkc).symm⟩, trivial⟩, trivial⟩
 ·refine Le.agg ⟨?_, ?_, ?_, Le.of_eq (congrArg (AV.int _) (if_neg (fun h => by have := hb h.1; rw [h.2] at this; cases this)).symm), trivial⟩
  ·show Le _ (ints (qo m s P ((m.procs.getD P Pr.none).edges.getD E Ed.none)).at_)
   rw [hTe]; exact Le.slc (by simp) (fun j hj => hA j)
  ·show Le _ (ints (qo m s P ((m.procs.getD P Pr.none).edges.getD E Ed.none)).vars)
   rw [hTe]; exact Le.refl _
  ·show Le _ (slcL (fun l => [ints l]) [] 1 (qo m s P ((m.procs.getD P Pr.none).edges.getD E Ed.none)).chans)
   rw [hTe]
   exact Le.slcL (by simp) (fun j hj => by
    rw [← qbz (fun c => [ints c]) [] s.chans ((m.procs.getD P Pr.none).edges.getD E Ed.none).chn.toNat _ hcc j]
    show LeL (List.map _ (if j = ((m.procs.getD P Pr.none).edges.getD E Ed.none).chn.toNat then _ else _)) _
    by_cases hjc : j = ((m.procs.getD P Pr.none).edges.getD E Ed.none).chn.toNat
    ·rw [if_pos hjc, if_pos hjc]
     refine ⟨Le.slc (show (s.chans.getD ((m.procs.getD P Pr.none).edges.getD E Ed.none).chn.toNat []).length + 1 = _ by rw [List.length_append, List.length_singleton]) (fun q hq => ?_), trivial⟩
     have hq' : q < (s.chans.getD ((m.procs.getD P Pr.none).edges.getD E Ed.none).chn.toNat []).length + 1 := hq
     refine (congrFun (if_pos rfl) q).trans ?_
     exact qls rfl hq'
    ·rw [if_neg hjc, if_neg hjc]
     refine ⟨Le.slc rfl (fun q hq => congrFun (if_neg hjc) q), trivial⟩)
theorem jra (m : Md) (hM : ModOk m) (s : Stt) (v : Mv) (hf : qq m s = true) (h : qah m s v = true) : Con Tryz.prog 24 [m.av, s.av, v.av] (qcc m s v).av := by
 by_cases hk : v.kind = 1
 ·exact jqw m hM s v hf h hk
 ·have h' := h
  unfold qah at h
  split at h
  ·rename_i h0
   rw [Bool.and_eq_true, Bool.and_eq_true] at h
   obtain ⟨ha, hb, _⟩ := h
   have h2 := of_decide_eq_true ha
   have h3 := of_decide_eq_true hb
   clear ha hb
   obtain ⟨k, p, e, c⟩ := v
   simp only at h0 h2 h3
   obtain ⟨P, rfl⟩ := Int.eq_ofNat_of_zero_le h3.1
   obtain ⟨E, rfl⟩ := Int.eq_ofNat_of_zero_le h3.2.2.1
   obtain ⟨h2, _⟩ := h2
   subst h0 h2
   have hst : qcc m s ⟨0, P, E, 0⟩ = qec m s P ((m.procs.getD P Pr.none).edges.getD E Ed.none) := rfl
   rw [hst]
   by_cases ha : ((m.procs.getD P Pr.none).edges.getD E Ed.none).act = 2
   ·exact jqz m hM s P E hf h' ha
   ·exact jqx m hM s P E hf h' ha
  ·split at h
   ·rename_i h0
    rw [Bool.and_eq_true] at h
    obtain ⟨ha, _⟩ := h
    have h2 := of_decide_eq_true ha
    clear ha
    obtain ⟨k, p, e, c⟩ := v
    simp only at h0 h2 hk
    obtain ⟨C, rfl⟩ := Int.eq_ofNat_of_zero_le h2.2.2.2.1
    obtain rfl : k = 2 := by omega
    obtain rfl : p = 0 := h2.2.1
    obtain rfl : e = 0 := h2.2.2.1
    exact jqy m hM s C hf h'
   ·cases h
end Go.Proofs.YtdoaagphhjggbaaGreat
end
section
/- The law StepDoes: what each move does; what is none does nothing. -/
namespace Go.Proofs.YtdoaagphhjggbaaGreat
open List renaming getD_eq_getElem?_getD → zd
open Go Go.Sx Go.RowKit Go.St
set_option maxRecDepth 100000
set_option maxHeartbeats 8000000
theorem jrb {m : Md} (hM : ModOk m) (s : Stt) : (qcb m s).length ≤ 1000000 := by
 have h1 := qrj m hM s m.procs.length (Nat.le_refl _)
 have h2 := qri m s m.chans.length
 have hz := hM.sz
 have e : qcb m s = qp m s m.procs.length ++ (if s.holder = -1 then qaq m s m.chans.length else []) := rfl
 rw [e, List.length_append]
 split
 ·omega
 ·simp; omega
theorem qvt (s : Stt) : qjv s s = true := by simp [qjv]
def eqMv (a b : Mv) : Bool := a.kind == b.kind && (a.proc == b.proc && (a.edge == b.edge && (a.chn == b.chn && true)))
def inN (L : List Mv) (v : Mv) (i : Nat) : Bool := (List.range i).any fun j => eqMv (L.getD j {}) v
theorem jrc (L : List Mv) (v : Mv) (i : Nat) : inN L v (i + 1) = (inN L v i || eqMv (L.getD i {}) v) := by
 unfold inN
 rw [List.range_succ, List.any_append]; simp
theorem jeh {a b : Mv} : eqMv a b = true ↔ a = b := by
 unfold eqMv
 cases a; cases b
 simp
theorem jrd {L : List Mv} {v : Mv} : inN L v L.length = true ↔ v ∈ L := by
 unfold inN
 rw [List.any_eq_true]
 constructor
 ·rintro ⟨j, hj, h⟩
  rw [jeh] at h
  rw [← h]
  exact qj L j {} (List.mem_range.1 hj)
 ·intro h
  obtain ⟨j, hj, rfl⟩ := List.mem_iff_getElem.1 h
  refine ⟨j, List.mem_range.2 hj, ?_⟩
  rw [jeh, zd, List.getElem?_eq_getElem hj]; rfl
theorem jre {P : Program} {f : FuncId} {args args' : List AV} {res : AV} (h : Con P f args' res) (hl : LeL args args') : Con P f args res := fun rd w vs h1 h2 => h rd w vs h1 (h2.le hl)
theorem jrf (l : List Nd) (hl : l.length ≤ 9223372036854775807) (hz : ∀ n ∈ l, NdSz n) (raw : List Int) (v : Mv) : Con Tryz.prog 4 [jo l, ints raw, v.av] (.bool true) := by
 refine qc (T := tab Tryz.prog) (C := {}) 300 (fun _ => rfl) Tryz.func4 rfl (by kernel_rfl) (by kernel_rfl) (fun c0 rdb => ?_)
 (repeat' ((conv => whnf); first | refine Ob.auto ?_ | refine zC 300 (jqr) ?_ | refine zC 300 (jqs l hl hz) ?_ | (apply zB <;> intro hb <;> (try simp [-zd] at hb) <;> try (exfalso; omega))))
 ·exact Le.refl _
 ·exact Le.refl _
 have hmd : (qfr l).2 = true := by assumption
 have hM := (jpf hmd).1
 clear hb hmd
 generalize (qfr l).1 = M at hM ⊢
 have hm := hM.ok
 have hf := jlg hm raw
 have hcm := jpl M hm raw
 generalize qay M raw = s at hf hcm
 have hs := qbt hM hf
 have hlen := jrb hM s
 have hmv := jqt M hM s hf
 have hin : ∀ {w}, w ∈ qcb M s ↔ qah M s w = true := jqb
 have hd : ∀ w, w ∈ qcb M s → doB M s w = true := fun w hw => by
  unfold doB; rw [hf, hin.1 hw]; rfl
 generalize qcb M s = L at hlen hmv hin hd
 (repeat' ((conv => whnf); first | refine zC 300 (hcm) ?_ | refine zC 300 (hmv) ?_ | fail))
 ((conv => whnf); refine qn (fun _ => rfl) 300 1 (fun i : Nat => [(12, iv i), (11, .bool (inN L v i))]) (fun _ => []) (fun i => i ≤ L.length) (fun i => L.length - i) (0) (Nat.zero_le _) qa qa (fun _ => rfl) (by kernel_rfl) ?_; (conv => whnf))
 intro i hi
 by_cases hil : i < L.length
 ·have hw := qj L i {} hil
  have hal := hin.1 hw
  have c1 := qvo M hM s hs (L.getD i {})
  unfold qgt at c1
  rw [hd _ hw, if_pos rfl] at c1
  have hft := jdo hM hf hal
  have hss := qbt hM hft
  have c2 := jra M hM s (L.getD i {}) hf hal
  have c3 := qvr (qcc M s (L.getD i {})) (qcc M s (L.getD i {})) hss
  rw [qvt] at c3
  have c4 := jpn M (qcc M s (L.getD i {})) hss
  rw [hft] at c4
  (repeat' ((conv => whnf); first | refine zO ?_ | refine Ob.auto ?_ | refine zD 300 ?_ | (apply zB <;> intro hb <;> (try simp [-zd] at hb) <;> try (exfalso; omega))))
  (repeat' ((conv => whnf); first | refine zO ?_ | refine Ob.auto ?_ | refine zX (c1) ?_ | refine zY (fun hg => c2) ?_ | refine zY (fun hg => c3) ?_ | refine zY (fun hg => c4) ?_ | (refine zR 300 ?_) | (apply zB <;> intro hb <;> (try simp [-zd] at hb) <;> try (exfalso; omega))))
  ((conv => whnf); refine ⟨i + 1, by omega, ⟨⟨Le.refl _, Le.of_eq (congrArg AV.bool (jrc L v i).symm), trivial⟩, qa⟩, ⟨qa, qa⟩, ?_⟩; (first | omega | (dsimp only; omega) | skip))
 ·obtain rfl : i = L.length := by omega
  have c1 := qvo M hM s hs v
  have hn : SSz (qgt M s v) := by
   unfold qgt
   split
   ·rename_i h
    unfold doB at h
    rw [Bool.and_eq_true] at h
    exact qbt hM (jdo hM hf h.2)
   ·exact ⟨Nat.zero_le _, Nat.zero_le _, Nat.zero_le _, fun c hc => by cases hc⟩
  have c2 : Con Tryz.prog 23 [(qgt M s v).av, .agg [.nils, .nils, .nils, iv 0]] (.bool (qjv (qgt M s v) Stt.zero)) := jre (qvr (qgt M s v) Stt.zero hn) ⟨Le.refl _, Le.agg ⟨Le.nils _ _, Le.nils _ _, Le.nils _ _, Le.refl _, trivial⟩, trivial⟩
  have c3 := qvr s s hs
  rw [qvt] at c3
  (repeat' ((conv => whnf); first | refine zC 300 (c1) ?_ | (apply zB <;> intro hb <;> (try simp [-zd] at hb) <;> try (exfalso; omega))))
  (repeat' ((conv => whnf); first | refine zA ?_ | refine Ob.auto ?_ | (refine CallZ.con (fun hg => c2) qel (by rfl) ?_) | (refine CallZ.con (fun hg => hcm) qel (by rfl) ?_) | (refine CallZ.con (fun hg => c3) qel (by rfl) ?_) | (refine zQ 300 ?_) | fail))
  refine Le.of_eq (congrArg AV.bool ?_)
  have e : doB M s v = inN L v L.length := by
   rw [Bool.eq_iff_iff, jrd, hin]
   unfold doB
   rw [hf, Bool.true_and]
  rw [← e, Bool.and_true]
  by_cases h : doB M s v = true
  ·rw [h]; rfl
  ·rw [show qgt M s v = Stt.zero from if_neg h, qvt, Bool.or_true, Bool.and_true, beq_self_eq_true]
end Go.Proofs.YtdoaagphhjggbaaGreat
end
