/- The law StepRuns: runs from the first state; who keeps control can go on. -/
import Derived.Test.YtdoaagphhjggbaaGreatQ37
import Derived.Test.YtdoaagphhjggbaaGreatQ40
import Derived.Test.YtdoaagphhjggbaaGreatQ2
namespace Go.Proofs.YtdoaagphhjggbaaGreat
open List renaming getD_eq_getElem?_getD → zd
open Go Go.Sx Go.RowKit Go.St
set_option maxRecDepth 100000
set_option maxHeartbeats 8000000
theorem jqo {m : Md} (hM : ModOk m) (s : Stt) : (qbv m s).length ≤ 1000000 := by
 have h1 := qvj m hM s m.procs.length (Nat.le_refl _)
 have h2 := qvi m s m.chans.length
 have hz := hM.sz
 have e : qbv m s = jq m s m.procs.length ++ (if s.holder = -1 then qcn m s m.chans.length else []) := rfl
 rw [e, List.length_append]
 split
 ·omega
 ·simp; omega
theorem jdm (s : Stt) : qku s s = true := by simp [qku]
def goes (m : Md) (s : Stt) : Prop := 0 ≤ s.holder → 0 < (qbv m s).length ∧ ((qbv m s).getD 0 {}).proc = s.holder
theorem jqp (m : Md) (s : Stt) (h : Int) (p : Nat) : qfl m { s with holder := h } p = qfl m s p := by
 unfold qfl
 congr 1
 funext e
 exact qvf m s h p e
theorem jqq {m : Md} {s : Stt} {p : Nat} (hp : p < m.procs.length) (hh : s.holder = p) (hs : qfl m s p = true) : goes m s := by
 intro _
 have hall : ∀ w ∈ qbv m s, w.proc = s.holder := fun w hw => by
  have := mem_movesF.1 hw
  unfold jp at this
  split at this
  ·rw [Bool.and_eq_true] at this
   have h2 := of_decide_eq_true this.1
   omega
  ·split at this
   ·rw [Bool.and_eq_true] at this
    have h2 := of_decide_eq_true this.1
    omega
   ·cases this
 have hne : 0 < (qbv m s).length := by
  unfold qfl at hs
  rw [List.any_eq_true] at hs
  obtain ⟨e, he, hc⟩ := hs
  obtain ⟨j, hj, rfl⟩ := List.mem_iff_getElem.1 he
  have hw : (⟨0, p, j, 0⟩ : Mv) ∈ qbv m s := by
   rw [mem_movesF]
   unfold jp
   rw [if_pos rfl, decide_eq_true ⟨rfl, .inr hh⟩, Bool.true_and, decide_eq_true ⟨Int.natCast_nonneg _, by simp only; omega, Int.natCast_nonneg _, by simp only [Int.toNat_natCast]; omega⟩, Bool.true_and]
   simp only [Int.toNat_natCast]
   rw [zd, List.getElem?_eq_getElem hj]
   exact hc
  exact List.length_pos_of_mem hw
 exact ⟨hne, hall _ (ql _ _ _ hne)⟩
theorem jdn {m : Md} {s : Stt} {v : Mv} (h : jp m s v = true) : goes m (qbl m s v) := by
 unfold jp at h
 split at h
 ·rename_i hk
  rw [Bool.and_eq_true, Bool.and_eq_true] at h
  have h3 := of_decide_eq_true h.2.1
  have e : qbl m s v = qdi m s v.proc.toNat ((qu m v.proc.toNat).getD v.edge.toNat Ed.none) := by
   unfold qbl
   rw [if_neg (by omega), if_neg (by omega)]
  rw [e]
  generalize (qu m v.proc.toNat).getD v.edge.toNat Ed.none = e
  by_cases hb : e.keep = true ∧ qfl m (qm m s v.proc.toNat e) v.proc.toNat = true
  ·refine jqq (p := v.proc.toNat) (by omega) (if_pos hb) ?_
   exact (jqp m (qm m s v.proc.toNat e) _ _).trans hb.2
  ·intro h0
   have : (qdi m s v.proc.toNat e).holder = -1 := if_neg hb
   omega
 ·intro h0
  exfalso
  unfold qbl at h0
  split at h0
  ·simp at h0
  ·split at h0
   ·simp at h0
   ·split at h
    ·omega
    ·cases h
theorem jqr (l : List Nd) (hl : l.length ≤ 9223372036854775807) (hz : ∀ n ∈ l, NdSz n) (cs : List Int) : Con Tryz.prog 5 [jo l, ints cs] (.bool true) := by
 refine qc (T := tab Tryz.prog) (C := {}) 300 (fun _ => rfl) Tryz.func5 rfl (by kernel_rfl) (by kernel_rfl) (fun c0 rdb => ?_)
 (repeat' ((conv => whnf); first | refine Ob.auto ?_ | refine zC 300 (jpy) ?_ | refine zC 300 (jpz l hl hz) ?_ | (apply zB <;> intro hb <;> (try simp [-zd] at hb) <;> try (exfalso; omega))))
 ·exact Le.refl _
 ·exact Le.refl _
 have hmd : (qer l).2 = true := by assumption
 have hM := (qqu hmd).1
 have hvf : VFit (qer l).1.vars := by rw [(qqu hmd).2.1]; exact jqm (qqu hmd).2.2.1 (qnr (qqu hmd).2.2.2).2
 have hcl : ((cs.length : Int)) ≤ 40 := by omega
 clear hmd
 generalize (qer l).1 = M at hM hvf ⊢
 have hm := hM.ok
 have hf := jqn hm hvf
 (repeat' ((conv => whnf); first | refine zC 300 (jqh M hm) ?_ | fail))
 ((conv => whnf); refine qt (fun _ => rfl) 300 1 (fun g : Nat × Stt => [(8, iv g.1)]) (fun g => [(1, .box 34 g.2.cells)]) (fun g => g.1 ≤ cs.length ∧ qp M g.2 = true ∧ goes M g.2) (fun g => cs.length - g.1) ((0, jk M)) (⟨Nat.zero_le _, hf, fun h => absurd h (show ¬ (0 : Int) ≤ -1 by decide)⟩) qa qa (fun _ => rfl) (by kernel_rfl) ?_; (conv => whnf))
 rintro ⟨i, s⟩ ⟨hi, hf, hgo⟩
 simp only at hi hf hgo
 have hs := qbw hM hf
 have hlen := jqo hM s
 have hh := ((jj M s).1 hf).1.2.2.2
 have hmv := qoa M hM s hf
 have hin : ∀ {w}, w ∈ qbv M s → jp M s w = true := mem_movesF.1
 unfold goes at hgo
 generalize qbv M s = L at hlen hmv hin hgo
 (repeat' ((conv => whnf); first | refine Ob.auto ?_ | refine zC 300 (hmv) ?_ | (apply zB <;> intro hb <;> (try simp [-zd] at hb) <;> try (exfalso; omega)) | refine Ob.intro ?_ ?_ | fail))
 ·refine Le.of_eq (congrArg AV.bool ?_)
  show (s.holder == -1) = true
  rw [beq_iff_eq]
  have hb : L = [] := by assumption
  by_cases h : 0 ≤ s.holder
  ·have := (hgo h).1
   rw [hb] at this
   exact absurd this (Nat.lt_irrefl 0)
  ·omega
 ·exact ⟨by show (-9223372036854775808 : Int) ≤ (cs.getD i 0).tmod L.length + L.length; have hlt := Int.lt_tmod_of_pos (cs.getD i 0) (show (0 : Int) < L.length from Int.natCast_pos.2 (List.length_pos_iff.2 (by assumption))); omega, by show (cs.getD i 0).tmod L.length + L.length ≤ (9223372036854775807 : Int); omega⟩
 ·have hneg : (cs.getD i 0).tmod L.length < 0 := by assumption
  have hLp : 0 < L.length := List.length_pos_iff.2 (by assumption)
  have hlt := Int.tmod_lt_of_pos (cs.getD i 0) (show (0 : Int) < L.length by omega)
  have hgt := Int.lt_tmod_of_pos (cs.getD i 0) (show (0 : Int) < L.length by omega)
  have hK : 0 ≤ ((cs.getD i 0).tmod L.length + L.length) ∧ ((cs.getD i 0).tmod L.length + L.length) < L.length := by omega
  have hw := ql L (((cs.getD i 0).tmod L.length + L.length)).toNat {} (by omega)
  have hal := hin hw
  have c1 := qvg M hM s hs (L.getD (((cs.getD i 0).tmod L.length + L.length)).toNat {})
  have hdo : doB M s (L.getD (((cs.getD i 0).tmod L.length + L.length)).toNat {}) = true := by unfold doB; rw [hf, hal]; rfl
  unfold qnv at c1
  rw [hdo, if_pos rfl] at c1
  have hft := jcu hM hf hal
  have hss := qbw hM hft
  have c2 := jdk M hM s (L.getD (((cs.getD i 0).tmod L.length + L.length)).toNat {}) hf hal
  have hgs := jdn hal
  generalize qbl M s (L.getD (((cs.getD i 0).tmod L.length + L.length)).toNat {}) = t at c1 c2 hft hss hgs
  have c3 := jdh t t hss
  rw [jdm] at c3
  have c4 := qoa M hM t hft
  unfold goes at hgs
  (repeat' ((conv => whnf); first | refine zO ?_ | refine Ob.auto ?_ | refine zX (c1) ?_ | refine zY (fun hg => c2) ?_ | refine zY (fun hg => c3) ?_ | refine zY (fun hg => c4) ?_ | (refine zR 300 ?_) | (apply zB <;> intro hb <;> (try simp [-zd] at hb) <;> try (exfalso; omega))))
  ·exfalso
   rcases hb with ⟨h0, hb⟩
   have := hgs h0
   rcases hb with hb | hb
   ·rw [hb] at this; exact absurd this.1 (Nat.lt_irrefl 0)
   ·exact hb this.2
  ·((conv => whnf); refine ⟨(i + 1, t), ⟨by simp only; omega, hft, hgs⟩, ⟨qa, qa⟩, ⟨qa, qa⟩, ?_⟩; (first | omega | (dsimp only; omega) | skip))
 ·have hpos : 0 ≤ (cs.getD i 0).tmod L.length := by assumption
  have hLp : 0 < L.length := List.length_pos_iff.2 (by assumption)
  have hlt := Int.tmod_lt_of_pos (cs.getD i 0) (show (0 : Int) < L.length by omega)
  have hgt := Int.lt_tmod_of_pos (cs.getD i 0) (show (0 : Int) < L.length by omega)
  have hK : 0 ≤ ((cs.getD i 0).tmod L.length) ∧ ((cs.getD i 0).tmod L.length) < L.length := by omega
  have hw := ql L (((cs.getD i 0).tmod L.length)).toNat {} (by omega)
  have hal := hin hw
  have c1 := qvg M hM s hs (L.getD (((cs.getD i 0).tmod L.length)).toNat {})
  have hdo : doB M s (L.getD (((cs.getD i 0).tmod L.length)).toNat {}) = true := by unfold doB; rw [hf, hal]; rfl
  unfold qnv at c1
  rw [hdo, if_pos rfl] at c1
  have hft := jcu hM hf hal
  have hss := qbw hM hft
  have c2 := jdk M hM s (L.getD (((cs.getD i 0).tmod L.length)).toNat {}) hf hal
  have hgs := jdn hal
  generalize qbl M s (L.getD (((cs.getD i 0).tmod L.length)).toNat {}) = t at c1 c2 hft hss hgs
  have c3 := jdh t t hss
  rw [jdm] at c3
  have c4 := qoa M hM t hft
  unfold goes at hgs
  (repeat' ((conv => whnf); first | refine zO ?_ | refine Ob.auto ?_ | refine zX (c1) ?_ | refine zY (fun hg => c2) ?_ | refine zY (fun hg => c3) ?_ | refine zY (fun hg => c4) ?_ | (refine zR 300 ?_) | (apply zB <;> intro hb <;> (try simp [-zd] at hb) <;> try (exfalso; omega))))
  ·exfalso
   rcases hb with ⟨h0, hb⟩
   have := hgs h0
   rcases hb with hb | hb
   ·rw [hb] at this; exact absurd this.1 (Nat.lt_irrefl 0)
   ·exact hb this.2
  ·((conv => whnf); refine ⟨(i + 1, t), ⟨by simp only; omega, hft, hgs⟩, ⟨qa, qa⟩, ⟨qa, qa⟩, ?_⟩; (first | omega | (dsimp only; omega) | skip))
 ·exact Le.refl _
end Go.Proofs.YtdoaagphhjggbaaGreat
