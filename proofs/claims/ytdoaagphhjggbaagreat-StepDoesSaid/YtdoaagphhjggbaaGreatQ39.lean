/- Some texts of the library, one behind the other. -/
import Derived.Test.YtdoaagphhjggbaaGreatQ33
import Derived.Test.YtdoaagphhjggbaaGreatQ35
import Derived.Test.YtdoaagphhjggbaaGreatQ2
section
/- Contracts: which states are the same, by the document's answer. -/
namespace Go.Proofs.YtdoaagphhjggbaaGreat
open List renaming getD_eq_getElem?_getD → zd
open Go Go.Sx Go.RowKit Go.St
set_option maxRecDepth 100000
set_option maxHeartbeats 2000000
theorem qvq (a b : List Int) (ha : a.length ≤ 1000000) : Con Tryz.prog 53 [ints a, ints b] (.bool (a == b)) := by
 refine qc (T := tab Tryz.prog) (C := {}) 300 (fun _ => rfl) Tryz.func53 rfl (by kernel_rfl) (by kernel_rfl) (fun c0 rdb => ?_)
 (repeat' ((conv => whnf); first | refine Ob.auto ?_ | (apply zB <;> intro hb <;> (try simp [-zd] at hb) <;> try (exfalso; omega))))
 ·refine Le.of_eq (congrArg AV.bool ?_)
  exact (beq_eq_false_iff_ne.2 (fun h => by subst h; simp at hb)).symm
 ·((conv => whnf); refine qn (fun _ => rfl) 300 1 (fun i : Nat => [(5, iv i)]) (fun _ => []) (fun i => i ≤ a.length ∧ ∀ j, j < i → a.getD j 0 = b.getD j 0) (fun i => a.length - i) (0) (⟨by omega, fun j hj => absurd hj (Nat.not_lt_zero j)⟩) qa qa (fun _ => rfl) (by kernel_rfl) ?_; (conv => whnf))
  intro i hi
  (repeat' ((conv => whnf); first | refine zO ?_ | refine Ob.auto ?_ | refine zD 300 ?_ | (apply zB <;> intro hb <;> (try simp [-zd] at hb) <;> try (exfalso; omega))))
  ·refine Le.of_eq (congrArg AV.bool ?_)
   exact (beq_eq_false_iff_ne.2 (fun h => by subst h; simp at hb)).symm
  ·((conv => whnf); refine ⟨i + 1, ⟨by omega, jp hi.2 hb⟩, ⟨qa, qa⟩, ⟨qa, qa⟩, ?_⟩; (first | omega | (dsimp only; omega) | skip))
  ·refine Le.of_eq (congrArg AV.bool ?_)
   exact (beq_iff_eq.2 (qzp 0 (by omega) (fun j hj => hi.2 j (by omega)))).symm
theorem qvr (a b : Stt) (ha : SSz a) : Con Tryz.prog 23 [a.av, b.av] (.bool (qjv a b)) := by
 have h1 := ha.a
 have h2 := ha.v
 have h3 := ha.c
 have h4 := ha.l
 refine qc (T := tab Tryz.prog) (C := {}) 300 (fun _ => rfl) Tryz.func23 rfl (by kernel_rfl) (by kernel_rfl) (fun c0 rdb => ?_)
 (repeat' ((conv => whnf); first | refine Ob.auto ?_ | refine zC 300 (qvq a.at_ b.at_ h1) ?_ | refine zG 300 (fun hg => qvq a.vars b.vars h2) ?_ | (apply zB <;> intro hb <;> (try simp [-zd] at hb) <;> try (exfalso; omega))))
 ·refine Le.of_eq (congrArg AV.bool ?_)
  refine Eq.symm ?_
  unfold qjv
  rw [Bool.eq_false_iff]
  intro h
  simp only [Bool.and_eq_true, beq_iff_eq] at h
  obtain ⟨⟨⟨e1, e2⟩, e3⟩, e4⟩ := h
  rw [e3] at hb
  simp [e1, e2, e4] at hb
 ·obtain ⟨⟨⟨e1, e2⟩, e3⟩, e4⟩ := hb
  ((conv => whnf); refine qn (fun _ => rfl) 300 1 (fun i : Nat => [(5, iv i)]) (fun _ => []) (fun i => i ≤ a.chans.length ∧ ∀ j, j < i → a.chans.getD j [] = b.chans.getD j []) (fun i => a.chans.length - i) (0) (⟨Nat.zero_le _, fun j hj => absurd hj (Nat.not_lt_zero j)⟩) qa qa (fun _ => rfl) (by kernel_rfl) ?_; (conv => whnf))
  intro i hi
  have hli : i < a.chans.length → _ := fun h => h4 _ (qj a.chans i [] h)
  (repeat' ((conv => whnf); first | refine zA ?_ | refine Ob.auto ?_ | (refine CallY.con (qvq (a.chans.getD i []) (b.chans.getD i []) (hli (by omega))) (by rfl) leA ?_) | (refine zQ 300 ?_) | (apply zB <;> intro hb <;> (try simp [-zd] at hb) <;> try (exfalso; omega))))
  ·refine Le.of_eq (congrArg AV.bool ?_)
   refine Eq.symm ?_
   unfold qjv
   rw [Bool.eq_false_iff]
   intro h
   simp only [Bool.and_eq_true, beq_iff_eq] at h
   rw [h.1.2] at hb
   exact hb rfl
  ·((conv => whnf); refine ⟨i + 1, ⟨by omega, jp hi.2 hb⟩, ⟨qa, qa⟩, ⟨qa, qa⟩, ?_⟩; (first | omega | (dsimp only; omega) | skip))
  ·refine Le.of_eq (congrArg AV.bool ?_)
   unfold qjv
   rw [e1, e2, e4, qzp [] (by omega) (fun j hj => hi.2 j (by omega))]
   simp
end Go.Proofs.YtdoaagphhjggbaaGreat
end
section
/- Contracts: a state's clone, by the document's answer. -/
namespace Go.Proofs.YtdoaagphhjggbaaGreat
open Go Go.Sx Go.RowKit Go.St
set_option maxRecDepth 100000
set_option maxHeartbeats 4000000
theorem jef (s : Stt) (hs : SSz s) : Trip Tryz.prog 54 [s.av] [] (.agg [.own 2 0 0 s.at_.length, .own 6 0 0 s.vars.length, .own 15 0 0 s.chans.length, iv s.holder])
  [(2, .row [] 3 1 0 s.at_.length (encL (fun n => [iv n]) 0 s.at_)), (6, .row [] 3 1 0 s.vars.length (encL (fun n => [iv n]) 0 s.vars)), (15, .row [] 23 1 0 s.chans.length (encL (fun c => [ints c]) [] s.chans))] 16 := by
 have ha := hs.a
 have hv := hs.v
 have hc := hs.c
 have hl := hs.l
 refine qck (T := tab Tryz.prog) (C := {lit := true}) 300 (fun _ => rfl) Tryz.func54 rfl (by kernel_rfl) (by kernel_rfl) (fun c0 rdb mpb => ?_)
 (repeat' ((conv => whnf); first | refine zO ?_ | refine Ob.auto ?_ | refine zD 300 ?_ | fail))
 refine qbw 13 2 23 1 rfl rfl ?_
 ((conv => whnf); refine jqu (fun _ => rfl) 300 1 (fun i : Nat => [(4, iv i)]) (fun i => [(13, .box 34 [.own 2 0 0 s.at_.length, .own 6 0 0 s.vars.length, .own 15 0 0 i, iv s.holder]), (15, .row [] 23 1 0 i (encL (fun c => [ints c]) [] s.chans))]) (fun i => i ≤ s.chans.length) (fun i => s.chans.length - i) (0) (Nat.zero_le _) qa ⟨⟨rfl, Le.of_eq (congrArg (AV.own 2 0 0) (Nat.zero_add _)), Le.of_eq (congrArg (AV.own 6 0 0) (Nat.zero_add _)), Le.refl _, Le.refl _, trivial⟩, qbh (fun k hk => absurd hk (Nat.not_lt_zero k)), trivial⟩ (fun _ => rfl) (by kernel_rfl) ?_; (conv => whnf))
 intro i hi
 have hli : i < s.chans.length → _ := fun h => hl _ (qj s.chans i [] h)
 (repeat' ((conv => whnf); first | refine zO ?_ | refine Ob.auto ?_ | refine zD 300 ?_ | (apply zB <;> intro hb <;> (try simp [-List.getD_eq_getElem?_getD] at hb) <;> try (exfalso; omega)) | refine Ob.intro ?_ ?_ | fail))
 ·have hli : (s.chans.getD (i : Int).toNat []).length ≤ 1000000 := hli (by omega)
  refine ⟨⟨rfl, rfl⟩, by omega, ?_⟩
  dsimp only
  refine Nat.le_trans (Nat.mul_le_mul_right _ (?_ : _ ≤ 4000001)) (by decide +kernel); omega
 ·have hli := hli (by omega)
  ((conv => whnf); refine ⟨i + 1, by omega, ⟨_, TurnR.melt [0, 1, 2, 6, 13, 15] 15 rfl (fun k hk => ?_), ⟨qa, ⟨?_, ⟨⟨rfl, rfl, rfl⟩, rfl, rfl, fun k hk => ?_⟩, trivial⟩⟩, ⟨qa, qa⟩⟩, ?_⟩; (first | omega | (dsimp only; omega) | skip))
  ·show allP _ (if k < i then _ else _)
   by_cases h : k < i
   ·rw [if_pos h]; exact ⟨trivial, trivial⟩
   ·obtain rfl : k = i := by omega
    rw [if_neg h, if_pos hk, Nat.sub_self]; exact ⟨⟨trivial, ⟨rfl, rfl⟩, trivial⟩, trivial⟩
  ·exact ⟨rfl, Le.refl _, Le.refl _, Le.refl _, Le.refl _, trivial⟩
  ·show LeL (List.map _ (if k < i then _ else _)) _
   by_cases h : k < i
   ·rw [if_pos h]; exact LeL.refl _
   ·obtain rfl : k = i := by omega
    rw [if_neg h, if_pos hk, Nat.sub_self]
    exact ⟨Le.slc (by simp) (fun q hq => qiw (by simpa using hq)), trivial⟩
  ·omega
 ·obtain rfl : i = s.chans.length := by omega
  refine ⟨Le.refl _, ⟨⟨rfl, rfl, by simp⟩, rfl, by simp, fun q hq => LeL.of_eq (qiw (by simpa using hq))⟩, ⟨⟨rfl, rfl, by simp⟩, rfl, by simp, fun q hq => LeL.of_eq (qiw (by simpa using hq))⟩, ⟨⟨rfl, rfl, rfl⟩, rfl, rfl, fun q hq => LeL.refl _⟩, trivial⟩
theorem jeg (s : Stt) (hs : SSz s) : Trip Tryz.prog 54 [s.av] [] (.agg [.own 2 0 0 s.at_.length, .own 6 0 0 s.vars.length, .own 15 0 0 s.chans.length, iv s.holder])
  [(2, .row [] 3 1 0 s.at_.length (encL (fun n => [iv n]) 0 s.at_)), (6, .row [] 3 1 0 s.vars.length (encL (fun n => [iv n]) 0 s.vars)), (15, .row [16] 23 1 0 s.chans.length (fun k => [.own 16 k 1 (s.chans.getD k []).length])),
   (16, .fam 3 1 s.chans.length (fun _ => 1) (fun k => (s.chans.getD k []).length) (fun k => encL (fun n => [iv n]) 0 (s.chans.getD k [])))] 17 := by
 have ha := hs.a
 have hv := hs.v
 have hc := hs.c
 have hl := hs.l
 refine qck (T := tab Tryz.prog) (C := {lit := true}) 300 (fun _ => rfl) Tryz.func54 rfl (by kernel_rfl) (by kernel_rfl) (fun c0 rdb mpb => ?_)
 (repeat' ((conv => whnf); first | refine zO ?_ | refine Ob.auto ?_ | refine zD 300 ?_ | fail))
 refine qbw 13 2 23 1 rfl rfl ?_
 refine jaz 15 3 1 rfl ?_
 ((conv => whnf); refine jdp (fun _ => rfl) 300 1 (fun i : Nat => [(4, iv i)]) (fun i => [(13, .box 34 [.own 2 0 0 s.at_.length, .own 6 0 0 s.vars.length, .own 15 0 0 i, iv s.holder]), (15, .row [16] 23 1 0 i (fun k => [.own 16 k 1 (s.chans.getD k []).length])), (16, .fam 3 1 i (fun _ => 1) (fun k => (s.chans.getD k []).length) (fun k => encL (fun n => [iv n]) 0 (s.chans.getD k [])))]) (fun i => i ≤ s.chans.length) (fun i => s.chans.length - i) (0) (Nat.zero_le _) qa ⟨⟨rfl, Le.of_eq (congrArg (AV.own 2 0 0) (Nat.zero_add _)), Le.of_eq (congrArg (AV.own 6 0 0) (Nat.zero_add _)), Le.refl _, Le.refl _, trivial⟩, qbh (fun k hk => absurd hk (Nat.not_lt_zero k)), qea (fun k hk => absurd hk (Nat.not_lt_zero k)) (fun k hk => absurd hk (Nat.not_lt_zero k)) (fun k _ hk => absurd hk (Nat.not_lt_zero k)), trivial⟩ (fun _ => rfl) (by kernel_rfl) ?_; (conv => whnf))
 intro i hi
 have hli : i < s.chans.length → _ := fun h => hl _ (qj s.chans i [] h)
 (repeat' ((conv => whnf); first | refine zO ?_ | refine Ob.auto ?_ | refine zD 300 ?_ | (apply zB <;> intro hb <;> (try simp [-List.getD_eq_getElem?_getD] at hb) <;> try (exfalso; omega)) | refine Ob.intro ?_ ?_ | fail))
 ·have hli : (s.chans.getD (i : Int).toNat []).length ≤ 1000000 := hli (by omega)
  refine ⟨⟨rfl, rfl⟩, by omega, ?_⟩
  dsimp only
  refine Nat.le_trans (Nat.mul_le_mul_right _ (?_ : _ ≤ 4000001)) (by decide +kernel); omega
 ·have hli := hli (by omega)
  ((conv => whnf); refine ⟨i + 1, by omega, ⟨_, Turn.join 15 16 19 rfl rfl rfl (by decide) (by exact (if_neg (Nat.lt_irrefl i)).trans ((if_pos (Nat.lt_succ_self i)).trans (by rw [Nat.sub_self]; rfl))) (fun k hk => ⟨_, _, if_pos hk⟩), ⟨qa, ⟨?_, qbh (fun k hk => ?_), qea (fun k hk => ?_) (fun k hk => ?_) (fun k j hk hj => ?_), trivial⟩⟩, ⟨qa, qa⟩⟩, ?_⟩; (first | omega | (dsimp only; omega) | skip))
  ·exact ⟨rfl, Le.refl _, Le.refl _, Le.refl _, Le.refl _, trivial⟩
  ·by_cases hki : k = i
   ·subst hki
    refine (if_pos rfl).trans ?_
    simp
   ·refine (if_neg hki).trans ?_
    exact if_pos (by omega)
  ·show Go.Sx.upd _ _ _ k = 1
   unfold Go.Sx.upd
   by_cases hki : k = i
   ·subst hki; simp
   ·rw [if_neg hki]; exact if_pos (by omega)
  ·show Go.Sx.upd _ _ _ k = _
   unfold Go.Sx.upd
   by_cases hki : k = i
   ·subst hki; simp
   ·rw [if_neg hki]; exact if_pos (by omega)
  ·have hj : j < Go.Sx.upd (fun k => if k < i then (s.chans.getD k []).length else 0) i (0 + (s.chans.getD (i : Int).toNat []).length) k := hj
   unfold Go.Sx.upd at hj
   show Go.Sx.upd (α := Nat → List AV) _ _ _ k j = _
   unfold Go.Sx.upd
   by_cases hki : k = i
   ·subst hki
    rw [if_pos rfl] at hj
    rw [if_pos rfl]
    exact qiw (by simpa using hj)
   ·rw [if_neg hki]
  ·omega
 ·obtain rfl : i = s.chans.length := by omega
  refine ⟨Le.refl _, ⟨⟨rfl, rfl, by simp⟩, rfl, by simp, fun q hq => LeL.of_eq (qiw (by simpa using hq))⟩, ⟨⟨rfl, rfl, by simp⟩, rfl, by simp, fun q hq => LeL.of_eq (qiw (by simpa using hq))⟩, qbh (fun _ _ => rfl), qea (fun _ _ => rfl) (fun _ _ => rfl) (fun _ _ _ _ => rfl), trivial⟩
end Go.Proofs.YtdoaagphhjggbaaGreat
end
