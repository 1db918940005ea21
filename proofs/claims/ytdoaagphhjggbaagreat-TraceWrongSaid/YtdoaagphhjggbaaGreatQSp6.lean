/- Contracts: what a move does. -/
import Derived.Test.YtdoaagphhjggbaaGreatQ36
import Derived.Test.YtdoaagphhjggbaaGreatQ2
namespace Go.Proofs.YtdoaagphhjggbaaGreat
open List renaming getD_eq_getElem?_getD → zd
open Go Go.Sx Go.RowKit Go.St
set_option maxRecDepth 100000
set_option maxHeartbeats 4000000
theorem do_no (m : Md) (hM : ModOk m) (s : Stt) (hs : SSz s) (v : Mv) (h : doB m s v = false) : Con Tryz.prog 22 [m.av, s.av, v.av] (.tup [.agg [.nils, .nils, .nils, iv 0], .bool false]) := by
 unfold doB at h
 by_cases hf : qi m s = true
 ·rw [hf, Bool.true_and] at h
  have hal := qon m hM s hf v
  have hft := qed m s hs
  rw [h] at hal
  rw [hf] at hft
  refine zK {} 300 Tryz.func22 (fun c0 rdb => ?_)
  (repeat' ((conv => whnf); first | refine Ob.auto ?_ | refine zC 300 (hft) ?_ | refine zG 300 (fun hg => hal) ?_ | (apply zB <;> intro hb <;> (try simp [-zd] at hb) <;> try (exfalso; omega))))
  exact Le.refl _
 ·have hft := qed m s hs
  rw [Bool.not_eq_true] at hf
  rw [hf] at hft
  refine zK {} 300 Tryz.func22 (fun c0 rdb => ?_)
  (repeat' ((conv => whnf); first | refine Ob.auto ?_ | refine zC 300 (hft) ?_ | refine zG 300 (fun hg => (absurd hg (by decide) : Con Tryz.prog 50 [m.av, s.av, v.av] (.bool false))) ?_ | (apply zB <;> intro hb <;> (try simp [-zd] at hb) <;> try (exfalso; omega))))
  exact Le.refl _
theorem qor {s : Stt} {c : Nat} (hc : c < s.chans.length) (j : Nat) : LeL (if j = c then [AV.slc 1 ((s.chans.getD c []).length - 1) fun i => encL (fun n => [iv n]) 0 (s.chans.getD c []) (1 + i)] else encL (fun c => [ints c]) [] s.chans j) (encL (fun c => [ints c]) [] (s.chans.set c ((s.chans.getD c []).drop 1)) j) := by
 rw [← qcd (fun c => [ints c]) [] s.chans c _ hc j]
 by_cases hj : j = c
 ·rw [if_pos hj, if_pos hj]
  refine ⟨Le.slc (by simp) (fun q _ => ?_), trivial⟩
  unfold encL
  rw [zd (l := List.drop 1 _), List.getElem?_drop, ← zd]
 ·rw [if_neg hj, if_neg hj]; exact LeL.refl _
theorem jro (m : Md) (hM : ModOk m) (s : Stt) (v : Mv) (hf : qi m s = true) (h : jo m s v = true) (hk : v.kind = 1) : Con Tryz.prog 22 [m.av, s.av, v.av] (.tup [(qu m s v).av, .bool true]) := by
 have hs := qbx hM hf
 have hal := qon m hM s hf v
 have hft := qed m s hs
 rw [h] at hal
 rw [hf] at hft
 unfold jo at h
 rw [if_neg (by omega), if_pos (.inl hk), if_pos hk, Bool.and_eq_true] at h
 obtain ⟨h2, h3⟩ := h
 have h2 := of_decide_eq_true h2
 have hcl := ((ji m s).1 hf).1.2.2.1
 have hq : 0 < (s.chans.getD v.chn.toNat []).length := by
  unfold qjc qlen at h3
  simp only [Bool.and_eq_true, decide_eq_true_eq, Int.toNat_natCast] at h3
  omega
 have hst : qu m s v = { s with chans := s.chans.set v.chn.toNat ((s.chans.getD v.chn.toNat []).drop 1), holder := -1 } := if_pos hk
 rw [hst]
 refine zK {} 300 Tryz.func22 (fun c0 rdb => ?_)
 (repeat' ((conv => whnf); first | refine Ob.auto ?_ | refine zC 300 (hft) ?_ | refine zG 300 (fun hg => hal) ?_ | (apply zB <;> intro hb <;> (try simp [-zd] at hb) <;> try (exfalso; omega))))
 ((conv => whnf); refine zT 300 [] (jed s hs) qa ?_)
 (repeat' ((conv => whnf); first | refine zO ?_ | refine Ob.auto ?_ | refine zD 300 ?_ | (apply zB <;> intro hb <;> (try simp [-zd] at hb) <;> try (exfalso; omega))))
 exact Le.tup ⟨Le.agg ⟨Le.refl _, Le.refl _, Le.slcL (by simp) (fun j hj => qor (by omega) j), Le.refl _, trivial⟩, Le.refl _, trivial⟩
theorem jej (m : Md) (s : Stt) (h : Int) (p : Nat) (e : Ed) : canB m { s with holder := h } p e = canB m s p e := by
 unfold canB qlen
 simp only [jeh]
theorem jek (m : Md) (s : Stt) (h : Int) (p : Nat) (e : Ed) : qcv m { s with holder := h } p e = qcv m s p e := by
 unfold qcv qm
 simp only [jeh]
theorem jrp (m : Md) (hM : ModOk m) (s : Stt) (P E : Nat) (hf : qi m s = true) (h : jo m s ⟨0, P, E, 0⟩ = true) (ha : ((edgesOf m P).getD E ed0).act ≠ 2) : Con Tryz.prog 22 [m.av, s.av, (⟨0, P, E, 0⟩ : Mv).av] (.tup [(qcv m s P ((edgesOf m P).getD E ed0)).av, .bool true]) := by
 have hs := qbx hM hf
 have hal := qon m hM s hf ⟨0, P, E, 0⟩
 have hft := qed m s hs
 rw [h] at hal
 rw [hf] at hft
 unfold jo at h
 rw [if_pos rfl, Bool.and_eq_true, Bool.and_eq_true] at h
 obtain ⟨h2, h3, h4⟩ := h
 have h3 := of_decide_eq_true h3
 simp only at h3
 have h5 : P < m.procs.length := by omega
 have h6 : E < (edgesOf m P).length := by have := h3.2.2.2; rw [Int.toNat_natCast] at this; omega
 have h6' : E < (m.procs.getD P pr0).edges.length := h6
 have hed := edOk hM h5 h6
 have hf0 := qlw hf (-1) ⟨Int.le_refl _, by omega⟩
 have hfo := jrm m hM { s with holder := -1 } hf0 rfl P h5 ((edgesOf m P).getD E ed0) hed (by rw [jej]; exact h4) ha
 rw [jek] at hfo
 refine zK {} 300 Tryz.func22 (fun c0 rdb => ?_)
 (repeat' ((conv => whnf); first | refine Ob.auto ?_ | refine zC 300 (hft) ?_ | refine zG 300 (fun hg => hal) ?_ | (apply zB <;> intro hb <;> (try simp [-zd] at hb) <;> try (exfalso; omega))))
 ((conv => whnf); refine zT 300 [] (jed s hs) qa ?_)
 (repeat' ((conv => whnf); first | refine Ob.auto ?_ | (apply zB <;> intro hb <;> (try simp [-zd] at hb) <;> try (exfalso; omega))))
 ((conv => whnf); refine zQ 300 ?_)
 (repeat' ((conv => whnf); first | refine Ob.auto ?_ | fail))
 ((conv => whnf); refine CallY.trip [18, 8, 12, 17] (hfo) (by kernel_rfl) leA qa (by exact qb rfl) (by exact qb rfl) ?_)
 (repeat' ((conv => whnf); first | refine zA ?_ | refine Ob.auto ?_ | fail))
 exact Le.refl _
theorem jrq (m : Md) (hM : ModOk m) (s : Stt) (P E : Nat) (hf : qi m s = true) (h : jo m s ⟨0, P, E, 0⟩ = true) (ha : ((edgesOf m P).getD E ed0).act = 2) : Con Tryz.prog 22 [m.av, s.av, (⟨0, P, E, 0⟩ : Mv).av] (.tup [(qcv m s P ((edgesOf m P).getD E ed0)).av, .bool true]) := by
 have hs := qbx hM hf
 have hal := qon m hM s hf ⟨0, P, E, 0⟩
 have hft := qed m s hs
 rw [h] at hal
 rw [hf] at hft
 unfold jo at h
 rw [if_pos rfl, Bool.and_eq_true, Bool.and_eq_true] at h
 obtain ⟨h2, h3, h4⟩ := h
 have h3 := of_decide_eq_true h3
 simp only at h3
 have h5 : P < m.procs.length := by omega
 have h6 : E < (edgesOf m P).length := by have := h3.2.2.2; rw [Int.toNat_natCast] at this; omega
 have h6' : E < (m.procs.getD P pr0).edges.length := h6
 have hed := edOk hM h5 h6
 have hf0 := qlw hf (-1) ⟨Int.le_refl _, by omega⟩
 have hfo := jrn m hM { s with holder := -1 } hf0 rfl P h5 ((edgesOf m P).getD E ed0) hed (by rw [jej]; exact h4) ha
 rw [jek] at hfo
 refine zK {} 300 Tryz.func22 (fun c0 rdb => ?_)
 (repeat' ((conv => whnf); first | refine Ob.auto ?_ | refine zC 300 (hft) ?_ | refine zG 300 (fun hg => hal) ?_ | (apply zB <;> intro hb <;> (try simp [-zd] at hb) <;> try (exfalso; omega))))
 ((conv => whnf); refine qfm (fun _ => rfl) 300 [] (jee s hs) (by kernel_rfl) leA qa (by exact qb rfl) (by exact qch ⟨fun _ _ => rfl, trivial⟩) (by kernel_rfl) ?_)
 (repeat' ((conv => whnf); first | refine Ob.auto ?_ | (apply zB <;> intro hb <;> (try simp [-zd] at hb) <;> try (exfalso; omega))))
 ((conv => whnf); refine zQ 300 ?_)
 (repeat' ((conv => whnf); first | refine Ob.auto ?_ | fail))
 ((conv => whnf); refine CallY.trip [24, 8, 12, 17, 23] (hfo) (by kernel_rfl) leA qa (by exact qch ⟨fun _ _ => rfl, trivial⟩) (by exact qb rfl) ?_)
 (repeat' ((conv => whnf); first | refine zA ?_ | refine Ob.auto ?_ | fail))
 exact Le.refl _
theorem jrr (m : Md) (hM : ModOk m) (s : Stt) (c : Nat) (hf : qi m s = true) (h : jo m s ⟨2, 0, 0, c⟩ = true) : Con Tryz.prog 22 [m.av, s.av, (⟨2, 0, 0, c⟩ : Mv).av] (.tup [(qu m s ⟨2, 0, 0, c⟩).av, .bool true]) := by
 have hs := qbx hM hf
 have hal := qon m hM s hf ⟨2, 0, 0, c⟩
 have hft := qed m s hs
 rw [h] at hal
 rw [hf] at hft
 unfold jo at h
 rw [if_neg (by simp), if_pos (.inr rfl), Bool.and_eq_true] at h
 obtain ⟨h2, h3⟩ := h
 have h2 := of_decide_eq_true h2
 simp only at h2
 have hcl := ((ji m s).1 hf).1.2.2.1
 have hq : 0 < (s.chans.getD c []).length := by
  unfold qib qlen at h3
  simp only [Int.toNat_natCast] at h3
  rw [if_neg (by decide)] at h3
  simp only [Bool.and_eq_true, decide_eq_true_eq] at h3
  omega
 have hcc : c < s.chans.length := by omega
 have hl := hs.l _ (ql s.chans c [] hcc)
 refine zK {} 300 Tryz.func22 (fun c0 rdb => ?_)
 (repeat' ((conv => whnf); first | refine Ob.auto ?_ | refine zC 300 (hft) ?_ | refine zG 300 (fun hg => hal) ?_ | (apply zB <;> intro hb <;> (try simp [-zd] at hb) <;> try (exfalso; omega))))
 ((conv => whnf); refine qfm (fun _ => rfl) 300 [] (jee s hs) (by kernel_rfl) leA qa (by exact qb rfl) (by exact qch ⟨fun _ _ => rfl, trivial⟩) (by kernel_rfl) ?_)
 (repeat' ((conv => whnf); first | refine zO ?_ | refine Ob.auto ?_ | refine zD 300 ?_ | (apply zB <;> intro hb <;> (try simp [-zd] at hb) <;> try (exfalso; omega)) | refine Ob.intro ?_ ?_ | fail))
 ·refine ⟨hcc, ⟨rfl, rfl⟩, show (s.chans.getD c []).length + 1 ≤ _ by omega, ?_⟩
  refine Nat.le_trans (Nat.mul_le_mul_right _ (show (s.chans.getD c []).length + 1 ≤ 4000001 by omega)) ?_
  dsimp only; decide +kernel
 ·exact ⟨⟨⟨rfl, rfl⟩, hcc⟩, hcc, by simp [upd], by simp [upd]⟩
 ·refine ⟨⟨⟨trivial, ⟨rfl, rfl⟩, trivial⟩, ⟨trivial, ⟨rfl, rfl⟩, trivial⟩, ⟨trivial, ⟨rfl, rfl⟩, fun k hk => ?_⟩, trivial, trivial⟩, trivial, trivial⟩
  show allP _ (if k = c then _ else _)
  by_cases hkc : k = c
  ·rw [if_pos hkc]
   exact ⟨⟨hcc, ⟨(if_pos rfl).symm, (if_pos rfl).symm⟩, trivial⟩, trivial⟩
  ·rw [if_neg hkc]
   exact ⟨⟨hk, ⟨(if_neg hkc).symm, (if_neg hkc).symm⟩, trivial⟩, trivial⟩
 have hst : qu m s ⟨2, 0, 0, c⟩ = { s with chans := s.chans.set c (s.chans.getD c [] ++ [(s.chans.getD c []).getD 0 0]), holder := -1 } := (if_neg (by simp)).trans (if_pos rfl)
 rw [hst]
 refine Le.tup ⟨Le.agg ⟨Le.refl _, Le.refl _, Le.slcL (by simp) (fun j hj => ?_), Le.refl _, trivial⟩, Le.refl _, trivial⟩
 rw [← qcd (fun c => [ints c]) [] s.chans c _ hcc j]
 show LeL (List.map _ (if j = c then _ else _)) _
 by_cases hjc : j = c
 ·rw [if_pos hjc, if_pos hjc]
  refine ⟨Le.slc (show (s.chans.getD c []).length + 1 = _ by rw [List.length_append, List.length_singleton]) (fun q hq => ?_), trivial⟩
  have hq' : q < (s.chans.getD c []).length + 1 := hq
  refine (congrFun (if_pos rfl) q).trans ?_
  exact qlz rfl hq'
 ·rw [if_neg hjc, if_neg hjc]
  refine ⟨Le.slc rfl (fun q hq => congrFun (if_neg hjc) q), trivial⟩
theorem jrs (m : Md) (hM : ModOk m) (s : Stt) (v : Mv) (hf : qi m s = true) (h : jo m s v = true) : Con Tryz.prog 22 [m.av, s.av, v.av] (.tup [(qu m s v).av, .bool true]) := by
 by_cases hk : v.kind = 1
 ·exact jro m hM s v hf h hk
 ·have h' := h
  unfold jo at h
  split at h
  ·rename_i h0
   rw [Bool.and_eq_true, Bool.and_eq_true] at h
   obtain ⟨ha, hb, _⟩ := h
   have h2 := of_decide_eq_true ha
   have h3 := of_decide_eq_true hb
   clear ha hb
   obtain ⟨k, p, e, c⟩ := v
   simp only at h0 h2 h3
   obtain ⟨P, rfl⟩ := Int.eq_ofNat_of_zero_le h3.1
   obtain ⟨E, rfl⟩ := Int.eq_ofNat_of_zero_le h3.2.2.1
   obtain ⟨h2, _⟩ := h2
   subst h0 h2
   have hst : qu m s ⟨0, P, E, 0⟩ = qcv m s P ((edgesOf m P).getD E ed0) := rfl
   rw [hst]
   by_cases ha : ((edgesOf m P).getD E ed0).act = 2
   ·exact jrq m hM s P E hf h' ha
   ·exact jrp m hM s P E hf h' ha
  ·split at h
   ·rename_i h0
    rw [Bool.and_eq_true] at h
    obtain ⟨ha, _⟩ := h
    have h2 := of_decide_eq_true ha
    clear ha
    obtain ⟨k, p, e, c⟩ := v
    simp only at h0 h2 hk
    obtain ⟨C, rfl⟩ := Int.eq_ofNat_of_zero_le h2.2.2.2.1
    obtain rfl : k = 2 := by omega
    obtain rfl : p = 0 := h2.2.1
    obtain rfl : e = 0 := h2.2.2.1
    exact jrr m hM s C hf h'
   ·cases h
theorem jel (m : Md) (hM : ModOk m) (s : Stt) (hs : SSz s) (v : Mv) : Con Tryz.prog 22 [m.av, s.av, v.av] (.tup [(qrn m s v).av, .bool (doB m s v)]) := by
 unfold qrn
 by_cases h : doB m s v = true
 ·rw [if_pos h, h]
  unfold doB at h
  rw [Bool.and_eq_true] at h
  exact jrs m hM s v h.1 h.2
 ·rw [if_neg h]
  rw [Bool.not_eq_true] at h
  rw [h]
  exact (do_no m hM s hs v h).res (Le.tup ⟨Le.agg ⟨Le.nils _ _, Le.nils _ _, Le.nils _ _, Le.refl _, trivial⟩, Le.refl _, trivial⟩)
end Go.Proofs.YtdoaagphhjggbaaGreat
