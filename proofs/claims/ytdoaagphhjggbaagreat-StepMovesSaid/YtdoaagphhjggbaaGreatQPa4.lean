/- Contracts of the document's parser: operands. -/
import Derived.Test.YtdoaagphhjggbaaGreatQPa3
import Derived.Test.YtdoaagphhjggbaaGreatQ2
namespace Go.Proofs.YtdoaagphhjggbaaGreat
open List renaming getD_eq_getElem?_getD → zd
open Go Go.Sx Go.RowKit Go.St Pa
set_option maxRecDepth 100000
set_option maxHeartbeats 4000000
section
variable {ts : List Lx.Tok} {p q : Ps} {n : Nat}
theorem jq {f : Nat → List AV} {v : Int} (h : f 0 = [iv v]) : Le (.slc 1 1 f) (ints [v]) := Le.slc rfl (fun i hi => by obtain rfl : i = 0 := (by omega); exact h)
theorem jy {f : Nat → List AV} {v : List UInt8} (h : f 0 = [.str v]) : Le (.slc 1 1 f) (strs [v]) := Le.slc rfl (fun i hi => by obtain rfl : i = 0 := (by omega); exact h)
theorem qaf {f : Nat → List AV} {v w : Int} (h : f 0 = [iv v]) (h' : f 1 = [iv w]) : Le (.slc 1 2 f) (ints [v, w]) := Le.slc rfl (fun i hi => by
 rcases (by omega : i = 0 ∨ i = 1) with rfl | rfl
 ·exact h
 ·exact h')
theorem qag {f : Nat → List AV} {v w : List UInt8} (h : f 0 = [.str v]) (h' : f 1 = [.str w]) : Le (.slc 1 2 f) (strs [v, w]) := Le.slc rfl (fun i hi => by
 rcases (by omega : i = 0 ∨ i = 1) with rfl | rfl
 ·exact h
 ·exact h')
theorem qah {f : Nat → List AV} {a : Tr} (h : f 0 = a.cells) : Le (.slc 6 1 f) (qmc [a]) := Le.slc rfl (fun i hi => by
 obtain rfl : i = 0 := (by omega)
 exact h.trans (Tr.cellsL_get [a] 0 (Nat.zero_lt_succ _)).symm)
theorem qai {f : Nat → List AV} {a b : Tr} (h : f 0 = a.cells) (h' : f 1 = b.cells) : Le (.slc 6 2 f) (qmc [a, b]) := Le.slc rfl (fun i hi => by
 rcases (by omega : i = 0 ∨ i = 1) with rfl | rfl
 ·exact h.trans (Tr.cellsL_get [a, b] 0 (Nat.zero_lt_succ _)).symm
 ·exact h'.trans (Tr.cellsL_get [a, b] 1 (Nat.lt_succ_self _)).symm)
theorem qaj {f : Nat → List AV} {a b c : Tr} (h : f 0 = a.cells) (h' : f 1 = b.cells) (h'' : f 2 = c.cells) : Le (.slc 6 3 f) (qmc [a, b, c]) := Le.slc rfl (fun i hi => by
 rcases (by omega : i = 0 ∨ i = 1 ∨ i = 2) with rfl | rfl | rfl
 ·exact h.trans (Tr.cellsL_get [a, b, c] 0 (Nat.zero_lt_succ _)).symm
 ·exact h'.trans (Tr.cellsL_get [a, b, c] 1 (Nat.succ_lt_succ (Nat.zero_lt_succ _))).symm
 ·exact h''.trans (Tr.cellsL_get [a, b, c] 2 (Nat.lt_succ_self _)).symm)
theorem jmv (ht : ToksOk ts) : ∀ n q, Pre ts n q → RdT ts 153 (qap ts n) q := by
 intro n
 induction n with
 | zero => intro p h; have := h.left; have := h.at_.hi; omega
 | succ n ih =>
  intro p h
  have h0 := h.at_.lo
  have h1 := h.at_.hi
  have h2 := ht.len
  have h3 := h.deep
  have h4 := h.left
  refine qci (T := tab Tryz.prog) (C := {}) 600 (fun _ => rfl) Tryz.func153 rfl (by kernel_rfl) (by kernel_rfl) (fun c0 rdb mpb => ?_)
  (repeat' ((conv => whnf); first | refine zA ?_ | refine zO ?_ | refine Ob.auto ?_ | refine zC 600 (jj h.at_ _) ?_ | refine zG 600 (fun hg => jj h.at_ _) ?_ | (refine CallY.con (jj h.at_ _) (by rfl) leA ?_) | (refine CallZ.con (fun hg => jj h.at_ _) qc (by rfl) ?_) | refine zC 600 (qo) ?_ | refine zG 600 (fun hg => qo) ?_ | (refine CallY.con (qo) (by rfl) leA ?_) | (refine CallZ.con (fun hg => qo) qc (by rfl) ?_) | refine zC 600 (ji h.at_) ?_ | refine zG 600 (fun hg => ji h.at_) ?_ | (refine CallY.con (ji h.at_) (by rfl) leA ?_) | (refine CallZ.con (fun hg => ji h.at_) qc (by rfl) ?_) | refine zE 600 (jj h.at_ _) ?_ | refine zF 600 (fun hg => jj h.at_ _) ?_ | refine zE 600 (qo) ?_ | refine zF 600 (fun hg => qo) ?_ | refine zE 600 (ji h.at_) ?_ | refine zF 600 (fun hg => ji h.at_) ?_ | refine zD 600 ?_ | (apply zB <;> intro hb <;> (try simp [-zd] at hb) <;> try (exfalso; omega)) | refine Ob.intro ?_ ?_))
  ·have e1 : qap ts (n + 1) p = (.mk 17 [] [numN ts p] (tk ts p).pos [], numP ts p) := if_pos hb
   rw [e1]
   (repeat' ((conv => whnf); first | refine zA ?_ | refine zO ?_ | refine Ob.auto ?_ | refine zD 600 ?_ | (refine jb (fun _ => rfl) (by kernel_rfl) 600 ?_) | (apply zB <;> intro hb <;> (try simp [-zd] at hb) <;> try (exfalso; omega)) | refine Ob.intro ?_ ?_))
   ((conv => whnf); refine CallY.trip [0] (qkp ht h.at_) (by kernel_rfl) leA qa (by exact qb rfl) (by exact qb rfl) ?_)
   (repeat' ((conv => whnf); first | refine zO ?_ | refine Ob.auto ?_ | refine zD 600 ?_ | (refine jb (fun _ => rfl) (by kernel_rfl) 600 ?_) | (apply zB <;> intro hb <;> (try simp [-zd] at hb) <;> try (exfalso; omega)) | refine Ob.intro ?_ ?_))
   ((conv => whnf); refine AltG.far 9 [2] (by kernel_rfl) farA (EndG.go ?_))
   (repeat' ((conv => whnf); first | refine zA ?_ | refine zO ?_ | refine Ob.auto ?_ | refine zD 600 ?_ | (apply zB <;> intro hb <;> (try simp [-zd] at hb) <;> try (exfalso; omega)) | refine Ob.intro ?_ ?_))
   (refine ⟨Le.agg ⟨Le.refl _, ?_, ?_, Le.refl _, Le.refl _, ?_, trivial⟩, qa⟩ <;> first | exact Le.nils _ _ | exact Le.refl _ | exact jq rfl | exact jy rfl | exact qah rfl | exact qaf rfl rfl | exact qag rfl rfl | exact qai rfl rfl | exact qaj rfl rfl rfl | exact qak (fun _ _ => rfl))
  have hn1 : ¬ (p.err = 0 ∧ (tk ts p).kind = 1) := fun h => hb h.1 h.2
  ((conv => whnf); refine zT 600 [0] (qav ht h.at_ kLen) qa ?_)
  (repeat' ((conv => whnf); first | refine zA ?_ | refine zO ?_ | refine Ob.auto ?_ | refine zD 600 ?_ | (apply zB <;> intro hb <;> (try simp [-zd] at hb) <;> try (exfalso; omega)) | refine Ob.intro ?_ ?_))
  ·have e1 : took ts p kLen = adv p := if_pos hb
   have e2 : qap ts (n + 1) p = (.mk 19 [qad ts (adv p)] [] (tk ts p).pos [], qg ts (adv p)) := (if_neg hn1).trans (if_pos hb)
   have hP' := h.step (qi ht h.at_ hb)
   rw [e1, e2]
   (repeat' ((conv => whnf); first | refine zA ?_ | refine zO ?_ | refine Ob.auto ?_ | refine zD 600 ?_ | (refine jb (fun _ => rfl) (by kernel_rfl) 600 ?_) | (apply zB <;> intro hb <;> (try simp [-zd] at hb) <;> try (exfalso; omega)) | refine Ob.intro ?_ ?_))
   ((conv => whnf); refine CallY.trip [0] (qie ht hP'.at_) (by kernel_rfl) leA qa (by exact qb rfl) (by exact qb rfl) ?_)
   (repeat' ((conv => whnf); first | refine zO ?_ | refine Ob.auto ?_ | refine zD 600 ?_ | (refine jb (fun _ => rfl) (by kernel_rfl) 600 ?_) | (apply zB <;> intro hb <;> (try simp [-zd] at hb) <;> try (exfalso; omega)) | refine Ob.intro ?_ ?_))
   ((conv => whnf); refine AltG.far 9 [2] (by kernel_rfl) farA (EndG.go ?_))
   (repeat' ((conv => whnf); first | refine zA ?_ | refine zO ?_ | refine Ob.auto ?_ | refine zD 600 ?_ | (apply zB <;> intro hb <;> (try simp [-zd] at hb) <;> try (exfalso; omega)) | refine Ob.intro ?_ ?_))
   (refine ⟨Le.agg ⟨Le.refl _, ?_, ?_, Le.refl _, Le.refl _, ?_, trivial⟩, qa⟩ <;> first | exact Le.nils _ _ | exact Le.refl _ | exact jq rfl | exact jy rfl | exact qah rfl | exact qaf rfl rfl | exact qag rfl rfl | exact qai rfl rfl | exact qaj rfl rfl rfl | exact qak (fun _ _ => rfl))
  have e1 : took ts p kLen = p := if_neg (by rw [hb]; decide)
  rw [e1]
  (repeat' ((conv => whnf); first | refine zA ?_ | refine zO ?_ | refine Ob.auto ?_ | (refine Ob.intro (by (exact ja (by omega) (by omega))) ?_) | refine zC 600 (qx h.at_ _) ?_ | refine zG 600 (fun hg => qx h.at_ _) ?_ | (refine CallY.con (qx h.at_ _) (by rfl) leA ?_) | (refine CallZ.con (fun hg => qx h.at_ _) qc (by rfl) ?_) | refine zE 600 (qx h.at_ _) ?_ | refine zF 600 (fun hg => qx h.at_ _) ?_ | refine zD 600 ?_ | (apply zB <;> intro hb <;> (try simp [-zd] at hb) <;> try (exfalso; omega)) | refine Ob.intro ?_ ?_))
  ·have hsee : sees ts p qfb = true ∨ sees ts p qrx = true := .inl (by assumption)
   have hst : Step ts p (adv p) := by rcases hsee with hs | hs <;> exact qi ht h.at_ hs
   have hP' := h.step hst
   obtain ⟨i1, i2, i3, _⟩ := qcy hP'.at_
   have hQ : Pre ts n (inP ts (adv p)) := ⟨i1, by rw [i2, i3]; show 0 ≤ p.deep + 1 ∧ p.deep + 1 ≤ (p.at_ + 1) + 1; omega, by rw [i2]; show (ts.length : Int) - (p.at_ + 1) ≤ n; omega⟩
   have hQd : (inP ts (adv p)).deep = p.deep + 1 := i3
   have e2 : qap ts (n + 1) p = (.mk 20 [] [] (tk ts p).pos (ifOk (qap ts n) (inP ts (adv p))).1, outP (ifOk (qap ts n) (inP ts (adv p))).2) := by
    refine (if_neg hn1).trans ((if_neg (by simp [*])).trans ((if_pos hsee).trans ?_))
    rw [if_pos (by assumption)]
   have hdp := (qgc ht n _ i1).deep
   rw [e2]
   ((conv => whnf); refine zT 600 [0] (qmg hP'.at_ (show 0 ≤ p.deep ∧ p.deep ≤ 100000 by omega)) qa ?_)
   (repeat' ((conv => whnf); first | refine zA ?_ | refine zO ?_ | refine Ob.auto ?_ | (refine Ob.intro (by (exact ja (by omega) (by omega))) ?_) | refine zC 600 (qo) ?_ | refine zG 600 (fun hg => qo) ?_ | (refine CallY.con (qo) (by rfl) leA ?_) | (refine CallZ.con (fun hg => qo) qc (by rfl) ?_) | refine zE 600 (qo) ?_ | refine zF 600 (fun hg => qo) ?_ | refine zD 600 ?_ | (apply zB <;> intro hb <;> (try simp [-zd] at hb) <;> try (exfalso; omega)) | refine Ob.intro ?_ ?_))
   ·rw [ifOk, if_pos hb]
    (repeat' ((conv => whnf); first | refine zA ?_ | refine zO ?_ | refine Ob.auto ?_ | refine zD 600 ?_ | (refine jb (fun _ => rfl) (by kernel_rfl) 600 ?_) | (apply zB <;> intro hb <;> (try simp [-zd] at hb) <;> try (exfalso; omega)) | refine Ob.intro ?_ ?_))
    ((conv => whnf); refine CallY.trip [0] (ih _ hQ) (by kernel_rfl) leA qa (by exact qb rfl) (by exact qb rfl) ?_)
    (repeat' ((conv => whnf); first | refine zO ?_ | refine Ob.auto ?_ | refine zD 600 ?_ | (refine jb (fun _ => rfl) (by kernel_rfl) 600 ?_) | (apply zB <;> intro hb <;> (try simp [-zd] at hb) <;> try (exfalso; omega)) | refine Ob.intro ?_ ?_))
    ((conv => whnf); refine AltG.far 7 [2] (by kernel_rfl) farA (EndG.go ?_))
    (repeat' ((conv => whnf); first | refine zA ?_ | refine zO ?_ | refine Ob.auto ?_ | (refine Ob.intro (by (exact ja (by omega) (by omega))) ?_) | refine zD 600 ?_ | (apply zB <;> intro hb <;> (try simp [-zd] at hb) <;> try (exfalso; omega)) | refine Ob.intro ?_ ?_))
    (refine ⟨Le.agg ⟨Le.refl _, ?_, ?_, Le.refl _, Le.refl _, ?_, trivial⟩, qa⟩ <;> first | exact Le.nils _ _ | exact Le.refl _ | exact jq rfl | exact jy rfl | exact qah rfl | exact qaf rfl rfl | exact qag rfl rfl | exact qai rfl rfl | exact qaj rfl rfl rfl | exact qak (fun _ _ => rfl))
   ·rw [ifOk, if_neg hb]
    (refine ⟨Le.agg ⟨Le.refl _, ?_, ?_, Le.refl _, Le.refl _, ?_, trivial⟩, qa⟩ <;> first | exact Le.nils _ _ | exact Le.refl _ | exact jq rfl | exact jy rfl | exact qah rfl | exact qaf rfl rfl | exact qag rfl rfl | exact qai rfl rfl | exact qaj rfl rfl rfl | exact qak (fun _ _ => rfl))
  ·have hsee : sees ts p qfb = true ∨ sees ts p qrx = true := .inr (by simp_all)
   have hst : Step ts p (adv p) := by rcases hsee with hs | hs <;> exact qi ht h.at_ hs
   have hP' := h.step hst
   obtain ⟨i1, i2, i3, _⟩ := qcy hP'.at_
   have hQ : Pre ts n (inP ts (adv p)) := ⟨i1, by rw [i2, i3]; show 0 ≤ p.deep + 1 ∧ p.deep + 1 ≤ (p.at_ + 1) + 1; omega, by rw [i2]; show (ts.length : Int) - (p.at_ + 1) ≤ n; omega⟩
   have hQd : (inP ts (adv p)).deep = p.deep + 1 := i3
   have e2 : qap ts (n + 1) p = (.mk 21 [] [] (tk ts p).pos (ifOk (qap ts n) (inP ts (adv p))).1, outP (ifOk (qap ts n) (inP ts (adv p))).2) := by
    refine (if_neg hn1).trans ((if_neg (by simp [*])).trans ((if_pos hsee).trans ?_))
    rw [if_neg (by simp [*])]
   have hdp := (qgc ht n _ i1).deep
   rw [e2]
   ((conv => whnf); refine zT 600 [0] (qmg hP'.at_ (show 0 ≤ p.deep ∧ p.deep ≤ 100000 by omega)) qa ?_)
   (repeat' ((conv => whnf); first | refine zA ?_ | refine zO ?_ | refine Ob.auto ?_ | (refine Ob.intro (by (exact ja (by omega) (by omega))) ?_) | refine zC 600 (qo) ?_ | refine zG 600 (fun hg => qo) ?_ | (refine CallY.con (qo) (by rfl) leA ?_) | (refine CallZ.con (fun hg => qo) qc (by rfl) ?_) | refine zE 600 (qo) ?_ | refine zF 600 (fun hg => qo) ?_ | refine zD 600 ?_ | (apply zB <;> intro hb <;> (try simp [-zd] at hb) <;> try (exfalso; omega)) | refine Ob.intro ?_ ?_))
   ·rw [ifOk, if_pos hb]
    (repeat' ((conv => whnf); first | refine zA ?_ | refine zO ?_ | refine Ob.auto ?_ | refine zD 600 ?_ | (refine jb (fun _ => rfl) (by kernel_rfl) 600 ?_) | (apply zB <;> intro hb <;> (try simp [-zd] at hb) <;> try (exfalso; omega)) | refine Ob.intro ?_ ?_))
    ((conv => whnf); refine CallY.trip [0] (ih _ hQ) (by kernel_rfl) leA qa (by exact qb rfl) (by exact qb rfl) ?_)
    (repeat' ((conv => whnf); first | refine zO ?_ | refine Ob.auto ?_ | refine zD 600 ?_ | (refine jb (fun _ => rfl) (by kernel_rfl) 600 ?_) | (apply zB <;> intro hb <;> (try simp [-zd] at hb) <;> try (exfalso; omega)) | refine Ob.intro ?_ ?_))
    ((conv => whnf); refine AltG.far 7 [2] (by kernel_rfl) farA (EndG.go ?_))
    (repeat' ((conv => whnf); first | refine zA ?_ | refine zO ?_ | refine Ob.auto ?_ | (refine Ob.intro (by (exact ja (by omega) (by omega))) ?_) | refine zD 600 ?_ | (apply zB <;> intro hb <;> (try simp [-zd] at hb) <;> try (exfalso; omega)) | refine Ob.intro ?_ ?_))
    (refine ⟨Le.agg ⟨Le.refl _, ?_, ?_, Le.refl _, Le.refl _, ?_, trivial⟩, qa⟩ <;> first | exact Le.nils _ _ | exact Le.refl _ | exact jq rfl | exact jy rfl | exact qah rfl | exact qaf rfl rfl | exact qag rfl rfl | exact qai rfl rfl | exact qaj rfl rfl rfl | exact qak (fun _ _ => rfl))
   ·rw [ifOk, if_neg hb]
    (refine ⟨Le.agg ⟨Le.refl _, ?_, ?_, Le.refl _, Le.refl _, ?_, trivial⟩, qa⟩ <;> first | exact Le.nils _ _ | exact Le.refl _ | exact jq rfl | exact jy rfl | exact qah rfl | exact qaf rfl rfl | exact qag rfl rfl | exact qai rfl rfl | exact qaj rfl rfl rfl | exact qak (fun _ _ => rfl))
  have hn2 : ¬ (sees ts p qfb = true ∨ sees ts p qrx = true) := by simp [hb]
  ((conv => whnf); refine zT 600 [0] (qav ht h.at_ sLp) qa ?_)
  (repeat' ((conv => whnf); first | refine zA ?_ | refine zO ?_ | refine Ob.auto ?_ | refine zD 600 ?_ | (apply zB <;> intro hb <;> (try simp [-zd] at hb) <;> try (exfalso; omega)) | refine Ob.intro ?_ ?_))
  ·have e3 : took ts p sLp = adv p := if_pos (by assumption)
   have hst := qi ht h.at_ (by assumption : sees ts p sLp = true)
   have hP' := h.step hst
   obtain ⟨i1, i2, i3, _⟩ := qcy hP'.at_
   have hQ : Pre ts n (inP ts (adv p)) := ⟨i1, by rw [i2, i3]; show 0 ≤ p.deep + 1 ∧ p.deep + 1 ≤ (p.at_ + 1) + 1; omega, by rw [i2]; show (ts.length : Int) - (p.at_ + 1) ≤ n; omega⟩
   have hQd : (inP ts (adv p)).deep = p.deep + 1 := i3
   have e2 : qap ts (n + 1) p = ((if (inP ts (adv p)).err = 0 then (qeg ts (qap ts n) (inP ts (adv p))).1 else .mk 17 [] [] (tk ts p).pos []),
    must ts (outP (if (inP ts (adv p)).err = 0 then (qeg ts (qap ts n) (inP ts (adv p))).2 else inP ts (adv p))) sRp) :=
    (if_neg hn1).trans ((if_neg (by simp [*])).trans ((if_neg hn2).trans (if_pos (by assumption))))
   have hrp := qgc ht n
   have hse := qry ht hrp _ i1
   have hdp := hse.deep
   rw [e2, e3]
   ((conv => whnf); refine zT 600 [0] (qmg hP'.at_ (show 0 ≤ p.deep ∧ p.deep ≤ 100000 by omega)) qa ?_)
   (repeat' ((conv => whnf); first | refine zA ?_ | refine zO ?_ | refine Ob.auto ?_ | (refine Ob.intro (by (exact ja (by omega) (by omega))) ?_) | refine zC 600 (qo) ?_ | refine zG 600 (fun hg => qo) ?_ | (refine CallY.con (qo) (by rfl) leA ?_) | (refine CallZ.con (fun hg => qo) qc (by rfl) ?_) | refine zE 600 (qo) ?_ | refine zF 600 (fun hg => qo) ?_ | refine zD 600 ?_ | (apply zB <;> intro hb <;> (try simp [-zd] at hb) <;> try (exfalso; omega)) | refine Ob.intro ?_ ?_))
   ·rw [if_pos hb, if_pos hb]
    ((conv => whnf); refine zT 600 [0] (jbl ht hrp ih _ hQ) qa ?_)
    (repeat' ((conv => whnf); first | refine zA ?_ | refine zO ?_ | refine Ob.auto ?_ | (refine Ob.intro (by (exact ja (by omega) (by omega))) ?_) | refine zD 600 ?_ | (apply zB <;> intro hb <;> (try simp [-zd] at hb) <;> try (exfalso; omega)) | refine Ob.intro ?_ ?_))
    ((conv => whnf); refine zT 600 [0] (qaz ht (p := outP (qeg ts (qap ts n) (inP ts (adv p))).2) ⟨(hse.ok i1).lo, (hse.ok i1).hi⟩ sRp) qa ?_)
    (repeat' ((conv => whnf); first | refine zA ?_ | refine zO ?_ | refine Ob.auto ?_ | refine zD 600 ?_ | (apply zB <;> intro hb <;> (try simp [-zd] at hb) <;> try (exfalso; omega)) | refine Ob.intro ?_ ?_))
    exact ⟨Le.refl _, qa⟩
   ·rw [if_neg hb, if_neg hb]
    ((conv => whnf); refine zT 600 [0] (qaz ht (p := outP (inP ts (adv p))) ⟨i1.lo, i1.hi⟩ sRp) qa ?_)
    (repeat' ((conv => whnf); first | refine zA ?_ | refine zO ?_ | refine Ob.auto ?_ | refine zD 600 ?_ | (apply zB <;> intro hb <;> (try simp [-zd] at hb) <;> try (exfalso; omega)) | refine Ob.intro ?_ ?_))
    (refine ⟨Le.agg ⟨Le.refl _, ?_, ?_, Le.refl _, Le.refl _, ?_, trivial⟩, qa⟩ <;> first | exact Le.nils _ _ | exact Le.refl _ | exact jq rfl | exact jy rfl | exact qah rfl | exact qaf rfl rfl | exact qag rfl rfl | exact qai rfl rfl | exact qaj rfl rfl rfl | exact qak (fun _ _ => rfl))
  ·have e3 : took ts p sLp = p := if_neg (by simp [*])
   have e2 : qap ts (n + 1) p = (.mk 18 [qad ts p] [] (tk ts p).pos [], qg ts p) := (if_neg hn1).trans ((if_neg (by simp [*])).trans ((if_neg hn2).trans (if_neg (by simp [*]))))
   rw [e2, e3]
   (repeat' ((conv => whnf); first | refine zA ?_ | refine zO ?_ | refine Ob.auto ?_ | refine zD 600 ?_ | (refine jb (fun _ => rfl) (by kernel_rfl) 600 ?_) | (apply zB <;> intro hb <;> (try simp [-zd] at hb) <;> try (exfalso; omega)) | refine Ob.intro ?_ ?_))
   ((conv => whnf); refine CallY.trip [0] (qie ht h.at_) (by kernel_rfl) leA qa (by exact qb rfl) (by exact qb rfl) ?_)
   (repeat' ((conv => whnf); first | refine zO ?_ | refine Ob.auto ?_ | refine zD 600 ?_ | (refine jb (fun _ => rfl) (by kernel_rfl) 600 ?_) | (apply zB <;> intro hb <;> (try simp [-zd] at hb) <;> try (exfalso; omega)) | refine Ob.intro ?_ ?_))
   ((conv => whnf); refine AltG.far 9 [2] (by kernel_rfl) farA (EndG.go ?_))
   (repeat' ((conv => whnf); first | refine zA ?_ | refine zO ?_ | refine Ob.auto ?_ | refine zD 600 ?_ | (apply zB <;> intro hb <;> (try simp [-zd] at hb) <;> try (exfalso; omega)) | refine Ob.intro ?_ ?_))
   (refine ⟨Le.agg ⟨Le.refl _, ?_, ?_, Le.refl _, Le.refl _, ?_, trivial⟩, qa⟩ <;> first | exact Le.nils _ _ | exact Le.refl _ | exact jq rfl | exact jy rfl | exact qah rfl | exact qaf rfl rfl | exact qag rfl rfl | exact qai rfl rfl | exact qaj rfl rfl rfl | exact qak (fun _ _ => rfl))
theorem e_rd (ht : ToksOk ts) (h : Pre ts ts.length p) : RdT ts 127 (eF ts) p := jbl ht (qgc ht _) (jmv ht _) p h
end
end Go.Proofs.YtdoaagphhjggbaaGreat
