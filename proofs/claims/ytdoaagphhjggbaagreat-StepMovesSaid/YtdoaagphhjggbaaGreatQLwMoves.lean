/- The law StepMoves: which moves a state has, which edges are enabled, what is dead or bad. -/
import Derived.Test.YtdoaagphhjggbaaGreatQ41
import Derived.Test.YtdoaagphhjggbaaGreatQ42
import Derived.Test.YtdoaagphhjggbaaGreatQ2
namespace Go.Proofs.YtdoaagphhjggbaaGreat
open List renaming getD_eq_getElem?_getD → zd
open Go Go.Sx Go.RowKit Go.St
set_option maxRecDepth 100000
set_option maxHeartbeats 8000000
def qbz (s : Stt) (h : Int) : Stt := { s with holder := h }
theorem and4 {a b c d : Prop} [Decidable a] [Decidable b] [Decidable c] [Decidable d] (h : (((decide a && decide b) && decide c) && decide d) = true) : (a ∧ b) ∧ c ∧ d := by
 simp only [Bool.and_eq_true, decide_eq_true_eq] at h
 exact ⟨h.1.1, h.1.2, h.2⟩
theorem jqp {m : Md} (hM : ModOk m) (s : Stt) : (qcs m s).length ≤ 1000000 := by
 have h1 := qsx m hM s m.procs.length (Nat.le_refl _)
 have h2 := qsw m s m.chans.length
 have hz := hM.sz
 have e : qcs m s = qq m s m.procs.length ++ (if s.holder = -1 then qaw m s m.chans.length else []) := rfl
 rw [e, List.length_append]
 split
 ·omega
 ·simp; omega
theorem jqq (l : List Nd) (hl : l.length ≤ 9223372036854775807) (hz : ∀ n ∈ l, NdSz n) (raw : List Int) : Con Tryz.prog 3 [jt l, ints raw] (.bool true) := by
 refine qd (T := tab Tryz.prog) (C := {}) 300 (fun _ => rfl) Tryz.func3 rfl (by kernel_rfl) (by kernel_rfl) (fun c0 rdb => ?_)
 (repeat' ((conv => whnf); first | refine zA ?_ | refine zO ?_ | refine Ob.auto ?_ | refine zC 300 (qnj) ?_ | refine zG 300 (fun hg => qnj) ?_ | (refine CallY.con (qnj) (by rfl) leA ?_) | (refine CallZ.con (fun hg => qnj) qc (by rfl) ?_) | refine zC 300 (qnk l hl hz) ?_ | refine zG 300 (fun hg => qnk l hl hz) ?_ | (refine CallY.con (qnk l hl hz) (by rfl) leA ?_) | (refine CallZ.con (fun hg => qnk l hl hz) qc (by rfl) ?_) | refine zE 300 (qnj) ?_ | refine zF 300 (fun hg => qnj) ?_ | refine zE 300 (qnk l hl hz) ?_ | refine zF 300 (fun hg => qnk l hl hz) ?_ | refine zD 300 ?_ | (apply zB <;> intro hb <;> (try simp [-zd] at hb) <;> try (exfalso; omega)) | refine Ob.intro ?_ ?_))
 ·exact Le.refl _
 ·exact Le.refl _
 have hmd : (qgi l).2 = true := by assumption
 have hM := (jpg hmd).1
 clear hb hmd
 generalize (qgi l).1 = M at hM ⊢
 have hm := hM.ok
 have hf := jpm hm raw
 have hcm := jpk M hm raw
 generalize qbe M raw = s at hf hcm
 have hsz := hM.sz
 (repeat' ((conv => whnf); first | refine zA ?_ | refine zO ?_ | refine Ob.auto ?_ | refine zC 300 (hcm) ?_ | refine zG 300 (fun hg => hcm) ?_ | (refine CallY.con (hcm) (by rfl) leA ?_) | (refine CallZ.con (fun hg => hcm) qc (by rfl) ?_) | refine zE 300 (hcm) ?_ | refine zF 300 (fun hg => hcm) ?_ | refine zD 300 ?_ | (apply zB <;> intro hb <;> (try simp [-zd] at hb) <;> try (exfalso; omega)) | refine Ob.intro ?_ ?_))
 have hby : ∀ h : Int, -1 ≤ h ∧ h < M.procs.length → qw M (qbz s h) = true := fun h hh => qsr hf h hh
 have hhs := ((qaa M s).1 hf).1.2.2.2
 ((conv => whnf); refine qp (fun _ => rfl) 300 1 (fun g : Nat × Int => [(8, iv ((g.1 : Int) - 1))]) (fun g => [(1, .box 34 (qbz s g.2).cells)]) (fun g => g.1 ≤ M.procs.length + 1 ∧ -1 ≤ g.2 ∧ g.2 < M.procs.length) (fun g => M.procs.length + 1 - g.1) ((0, s.holder)) (⟨Nat.zero_le _, hhs⟩) qa qa (fun _ => rfl) (by kernel_rfl) ?_; (conv => whnf))
 rintro ⟨g, h⟩ ⟨hg1, hh⟩
 simp only at hg1 hh
 have key : (g : Int) - 1 < M.procs.length → _ := fun hlt => hby ((g : Int) - 1) ⟨by omega, hlt⟩
 (repeat' ((conv => whnf); first | refine zA ?_ | refine zO ?_ | refine Ob.auto ?_ | refine zI ?_ | refine zD 300 ?_ | (apply zB <;> intro hb <;> (try simp [-zd] at hb) <;> try (exfalso; omega)) | refine Ob.intro ?_ ?_))
 ·have hf' := key (by assumption)
  have hs' := qdx hM hf'
  have c1 := qxe M hM (qbz s ((g : Int) - 1)) hf'
  have c2 := jev M hM (qbz s ((g : Int) - 1)) hf'
  have c3 := jqo (qcs M (qbz s ((g : Int) - 1))) (qcs M (qbz s ((g : Int) - 1))) (jqp hM _)
  rw [decide_eq_true rfl] at c3
  have c4 := qsy M hM (qbz s ((g : Int) - 1)) hs'
  have c5 := jew M hM (qbz s ((g : Int) - 1)) hf'
  have c6 := qxf M hM (qbz s ((g : Int) - 1)) hs'
  have c7 := jqm M hM (qbz s ((g : Int) - 1)) hf'
  rw [hf', Bool.true_and] at c4 c6
  (repeat' ((conv => whnf); first | refine zA ?_ | refine zO ?_ | refine Ob.auto ?_ | refine zC 300 (c1) ?_ | refine zG 300 (fun hg => c1) ?_ | (refine CallY.con (c1) (by rfl) leA ?_) | (refine CallZ.con (fun hg => c1) qc (by rfl) ?_) | refine zC 300 (c2) ?_ | refine zG 300 (fun hg => c2) ?_ | (refine CallY.con (c2) (by rfl) leA ?_) | (refine CallZ.con (fun hg => c2) qc (by rfl) ?_) | refine zC 300 (c3) ?_ | refine zG 300 (fun hg => c3) ?_ | (refine CallY.con (c3) (by rfl) leA ?_) | (refine CallZ.con (fun hg => c3) qc (by rfl) ?_) | refine zC 300 (c4) ?_ | refine zG 300 (fun hg => c4) ?_ | (refine CallY.con (c4) (by rfl) leA ?_) | (refine CallZ.con (fun hg => c4) qc (by rfl) ?_) | refine zC 300 (c5) ?_ | refine zG 300 (fun hg => c5) ?_ | (refine CallY.con (c5) (by rfl) leA ?_) | (refine CallZ.con (fun hg => c5) qc (by rfl) ?_) | refine zC 300 (c6) ?_ | refine zG 300 (fun hg => c6) ?_ | (refine CallY.con (c6) (by rfl) leA ?_) | (refine CallZ.con (fun hg => c6) qc (by rfl) ?_) | refine zC 300 (c7) ?_ | refine zG 300 (fun hg => c7) ?_ | (refine CallY.con (c7) (by rfl) leA ?_) | (refine CallZ.con (fun hg => c7) qc (by rfl) ?_) | refine zE 300 (c1) ?_ | refine zF 300 (fun hg => c1) ?_ | refine zE 300 (c2) ?_ | refine zF 300 (fun hg => c2) ?_ | refine zE 300 (c3) ?_ | refine zF 300 (fun hg => c3) ?_ | refine zE 300 (c4) ?_ | refine zF 300 (fun hg => c4) ?_ | refine zE 300 (c5) ?_ | refine zF 300 (fun hg => c5) ?_ | refine zE 300 (c6) ?_ | refine zF 300 (fun hg => c6) ?_ | refine zE 300 (c7) ?_ | refine zF 300 (fun hg => c7) ?_ | refine zD 300 ?_ | (refine zQ 300 ?_) | (apply zB <;> intro hb <;> (try simp [-zd] at hb) <;> try (exfalso; omega)) | refine Ob.intro ?_ ?_))
  ((conv => whnf); refine ⟨(g + 1, (g : Int) - 1), ⟨by simp only; omega, by simp only; omega, by simp only; omega⟩, ⟨qa, qa⟩, ⟨qa, qa⟩, ?_⟩; (first | omega | (dsimp only; omega) | skip))
 ·have hf' := hby h hh
  have hs' := qdx hM hf'
  ((conv => whnf); refine qp (fun _ => rfl) 300 2 (fun p : Nat => [(9, iv ((p : Int) - 1))]) (fun _ => []) (fun p => p ≤ M.procs.length + 2) (fun p => M.procs.length + 2 - p) (0) (Nat.zero_le _) qa qa (fun _ => rfl) (by kernel_rfl) ?_; (conv => whnf))
  intro p hp
  (repeat' ((conv => whnf); first | refine zA ?_ | refine zO ?_ | refine Ob.auto ?_ | refine zI ?_ | refine zD 300 ?_ | (apply zB <;> intro hb <;> (try simp [-zd] at hb) <;> try (exfalso; omega)) | refine Ob.intro ?_ ?_))
  ·((conv => whnf); refine qp (fun _ => rfl) 300 3 (fun i : Nat => [(10, iv ((i : Int) - 1))]) (fun _ => []) (fun i => i ≤ 31) (fun i => 31 - i) (0) (Nat.zero_le _) qa qa (fun _ => rfl) (by kernel_rfl) ?_; (conv => whnf))
   intro i hi
   have ce := qsq M hm (qbz s h) hs' (fun q hq => (hM.pr q hq).ed) ((p : Int) - 1) ((i : Int) - 1)
   have cr : (0 ≤ (p : Int) - 1 ∧ (p : Int) - 1 < M.procs.length) ∧ 0 ≤ (i : Int) - 1 ∧ (i : Int) - 1 < (qm M ((p : Int) - 1).toNat).length → Con Tryz.prog 20 [M.av, (qbz s h).av, iv ((p : Int) - 1), .agg ((qm M ((p : Int) - 1).toNat).getD ((i : Int) - 1).toNat Ed.none).cells] (.bool (canB M (qbz s h) ((p : Int) - 1).toNat ((qm M ((p : Int) - 1).toNat).getD ((i : Int) - 1).toNat Ed.none))) := fun ⟨⟨h1, h2⟩, h3, h4⟩ => by
    have h5 : ((p : Int) - 1).toNat < M.procs.length := by omega
    have h6 : ((i : Int) - 1).toNat < (qm M ((p : Int) - 1).toNat).length := by omega
    have := qky M hm (qbz s h) hf' ((p : Int) - 1).toNat h5 _ (edOk hM h5 h6)
    rw [Int.toNat_of_nonneg h1] at this
    exact this
   (repeat' ((conv => whnf); first | refine zA ?_ | refine zO ?_ | refine Ob.auto ?_ | refine zI ?_ | refine zD 300 ?_ | (apply zB <;> intro hb <;> (try simp [-zd] at hb) <;> try (exfalso; omega)) | refine Ob.intro ?_ ?_))
   ·(repeat' ((conv => whnf); first | refine zA ?_ | refine zO ?_ | refine Ob.auto ?_ | (refine Ob.intro (by ((intro h; have h' := h; simp only [Bool.and_eq_true, decide_eq_true_eq] at h'; first | exact ⟨h, by omega, by omega⟩ | exact ⟨by omega, by omega⟩))) ?_) | refine zC 300 (cr (and4 hg)) ?_ | refine zG 300 (fun hg => cr (and4 hg)) ?_ | (refine CallY.con (cr (and4 hg)) (by rfl) leA ?_) | (refine CallZ.con (fun hg => cr (and4 hg)) qc (by rfl) ?_) | refine zE 300 (cr (and4 hg)) ?_ | refine zF 300 (fun hg => cr (and4 hg)) ?_ | refine zD 300 ?_ | (refine zQ 300 ?_) | (apply zB <;> intro hb <;> (try simp [-zd] at hb) <;> try (exfalso; omega)) | refine Ob.intro ?_ ?_))
    (repeat' ((conv => whnf); first | refine zA ?_ | refine zO ?_ | refine Ob.auto ?_ | refine zI ?_ | refine zC 300 (ce) ?_ | refine zG 300 (fun hg => ce) ?_ | (refine CallY.con (ce) (by rfl) leA ?_) | (refine CallZ.con (fun hg => ce) qc (by rfl) ?_) | refine zE 300 (ce) ?_ | refine zF 300 (fun hg => ce) ?_ | refine zD 300 ?_ | (apply zB <;> intro hb <;> (try simp [-zd] at hb) <;> try (exfalso; omega)) | refine Ob.intro ?_ ?_))
    ·exfalso
     apply hb
     unfold qjo qm
     have e1 : ((p : Int) - 1).toNat = p - 1 := by omega
     have e2 : ((i : Int) - 1).toNat = i - 1 := by omega
     rw [hf', Bool.true_and, e1, e2]
     congr 1
     rw [Bool.eq_iff_iff]
     simp only [Bool.and_eq_true, decide_eq_true_eq]
     omega
    ·((conv => whnf); refine ⟨i + 1, by omega, ⟨qa, qa⟩, ⟨qa, qa⟩, ?_⟩; (first | omega | (dsimp only; omega) | skip))
   ·((conv => whnf); refine ⟨p + 1, by omega, ⟨qa, qa⟩, ⟨qa, qa⟩, ?_⟩; (first | omega | (dsimp only; omega) | skip))
  ·have hn : qw M (qbz s M.procs.length) = false := qvl (fun h => absurd h.2.2.2.2 (Int.lt_irrefl _))
   have hz := ((qaa M s).1 hf).1
   have hsn : SSz (qbz s M.procs.length) := ⟨hs'.a, hs'.v, hs'.c, hs'.l⟩
   have d1 := jqf M (qbz s M.procs.length) hsn hn
   have d2 := qsy M hM (qbz s M.procs.length) hsn
   have d3 := qxf M hM (qbz s M.procs.length) hsn
   have d4 := qsq M hm (qbz s M.procs.length) hsn (fun q hq => (hM.pr q hq).ed) 0 0
   unfold qjo at d4
   rw [hn, Bool.false_and] at d2 d3
   rw [hn, Bool.false_and, Bool.false_and] at d4
   (repeat' ((conv => whnf); first | refine zA ?_ | refine zO ?_ | refine Ob.auto ?_ | refine zC 300 (d1) ?_ | refine zG 300 (fun hg => d1) ?_ | (refine CallY.con (d1) (by rfl) leA ?_) | (refine CallZ.con (fun hg => d1) qc (by rfl) ?_) | refine zC 300 (d2) ?_ | refine zG 300 (fun hg => d2) ?_ | (refine CallY.con (d2) (by rfl) leA ?_) | (refine CallZ.con (fun hg => d2) qc (by rfl) ?_) | refine zC 300 (d3) ?_ | refine zG 300 (fun hg => d3) ?_ | (refine CallY.con (d3) (by rfl) leA ?_) | (refine CallZ.con (fun hg => d3) qc (by rfl) ?_) | refine zC 300 (d4) ?_ | refine zG 300 (fun hg => d4) ?_ | (refine CallY.con (d4) (by rfl) leA ?_) | (refine CallZ.con (fun hg => d4) qc (by rfl) ?_) | refine zE 300 (d1) ?_ | refine zF 300 (fun hg => d1) ?_ | refine zE 300 (d2) ?_ | refine zF 300 (fun hg => d2) ?_ | refine zE 300 (d3) ?_ | refine zF 300 (fun hg => d3) ?_ | refine zE 300 (d4) ?_ | refine zF 300 (fun hg => d4) ?_ | refine zD 300 ?_ | (apply zB <;> intro hb <;> (try simp [-zd] at hb) <;> try (exfalso; omega)) | refine Ob.intro ?_ ?_))
   exact Le.refl _
end Go.Proofs.YtdoaagphhjggbaaGreat
