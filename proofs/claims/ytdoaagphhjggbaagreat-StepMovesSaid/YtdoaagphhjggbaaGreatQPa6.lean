/- Contracts of the document's parser: blocks and statements. -/
import Derived.Test.YtdoaagphhjggbaaGreatQ13
import Derived.Test.YtdoaagphhjggbaaGreatQ2
namespace Go.Proofs.YtdoaagphhjggbaaGreat
open List renaming getD_eq_getElem?_getD → zd
open Go Go.Sx Go.RowKit Go.St Pa
set_option maxRecDepth 100000
set_option maxHeartbeats 4000000
section
variable {ts : List Lx.Tok} {p q : Ps} {n : Nat}
theorem Pre.inW (h : Pre ts n p) (k : Step ts p q) (hg : q.err = 0 → p.at_ < q.at_) : PreW ts n (inP ts q) := by
 obtain ⟨i1, i2, i3, i4⟩ := qcy (k.ok h.at_)
 have h1 := h.deep
 have h2 := h.left
 have h3 := k.le
 have h4 := k.deep
 refine ⟨i1, by omega, fun he => ?_, by omega⟩
 have : q.err = 0 := Classical.byContradiction fun hn => by have := (i4 hn).1; omega
 have := hg this
 omega
theorem qak {l : List Tr} {f : Nat → List AV} (h : ∀ i, i < l.length → f i = qce l i) : Le (.slc 6 l.length f) (qmc l) := Le.slc rfl h
theorem jna (ht : ToksOk ts) {stat : Ps → Tr × Ps} (hr : Runs ts stat) (hg : qhe ts stat) (hs : ∀ q, Pre ts n q → RdT ts 145 stat q) (h : Pre ts n p) : RdT ts 149 (qv ts stat) p := by
 have h2 := ht.len
 have h3 := h.deep
 have h4 := h.at_.hi
 have hst := ql ht h.at_ sLc
 have hq := h.step hst
 have hqd := hst.deep
 have hw := h.inW hst (fun he => by have := (qhd he).2; omega)
 have hso := qhc ht hr ts.length [] _ hw.at_
 have hd := hso.deep
 have hi := (qcy hq.at_).2.2.1
 refine qci (T := tab Tryz.prog) (C := {}) 600 (fun _ => rfl) Tryz.func149 rfl (by kernel_rfl) (by kernel_rfl) (fun c0 rdb mpb => ?_)
 (repeat' ((conv => whnf); first | refine zA ?_ | refine zO ?_ | refine Ob.auto ?_ | refine zC 600 (jj h.at_ _) ?_ | refine zG 600 (fun hg => jj h.at_ _) ?_ | (refine CallY.con (jj h.at_ _) (by rfl) leA ?_) | (refine CallZ.con (fun hg => jj h.at_ _) qc (by rfl) ?_) | refine zE 600 (jj h.at_ _) ?_ | refine zF 600 (fun hg => jj h.at_ _) ?_ | refine zD 600 ?_ | (apply zB <;> intro hb <;> (try simp [-zd] at hb) <;> try (exfalso; omega)) | refine Ob.intro ?_ ?_))
 ((conv => whnf); refine zT 600 [0] (qaz ht h.at_ sLc) qa ?_)
 (repeat' ((conv => whnf); first | refine zA ?_ | refine zO ?_ | refine Ob.auto ?_ | refine zD 600 ?_ | (apply zB <;> intro hb <;> (try simp [-zd] at hb) <;> try (exfalso; omega)) | refine Ob.intro ?_ ?_))
 ((conv => whnf); refine zT 600 [0] (qmg hq.at_ (by omega)) qa ?_)
 (repeat' ((conv => whnf); first | refine zA ?_ | refine zO ?_ | refine Ob.auto ?_ | refine zD 600 ?_ | (apply zB <;> intro hb <;> (try simp [-zd] at hb) <;> try (exfalso; omega)) | refine Ob.intro ?_ ?_))
 ((conv => whnf); refine zT 600 [0, 2] (jmz ht hr hg hs hw 16 (tk ts p).pos) qa ?_)
 (repeat' ((conv => whnf); first | refine zA ?_ | refine zO ?_ | refine Ob.auto ?_ | (refine Ob.intro (by (exact ja (by omega) (by omega))) ?_) | refine zD 600 ?_ | (apply zB <;> intro hb <;> (try simp [-zd] at hb) <;> try (exfalso; omega)) | refine Ob.intro ?_ ?_))
 (refine ⟨Le.agg ⟨Le.refl _, ?_, ?_, Le.refl _, Le.refl _, ?_, trivial⟩, qa⟩ <;> first | exact Le.nils _ _ | exact Le.refl _ | exact jq rfl | exact jy rfl | exact qah rfl | exact qaf rfl rfl | exact qag rfl rfl | exact qai rfl rfl | exact qaj rfl rfl rfl | exact qak (fun _ _ => rfl))
theorem Pre.full (h : Pre ts n p) : Pre ts ts.length p := ⟨h.at_, h.deep, by have := h.at_.lo; omega⟩
theorem jbu (ht : ToksOk ts) (h : Pre ts n p) (hs : sees ts p qdr = true) (i a : Int) :
    Trip Tryz.prog 148 [.ptr 0 0, .ptr 1 0] [pso ts p, .box 106 [iv 6, .nils, ints [i], .nils, iv a, .nils]] (.tup [])
      [(0, pso ts (must ts (qg ts (qg ts (adv p))) qu)), (1, .box 106 [iv 8, .own 2 0 0 2, ints [i], .nils, iv a, .nils]),
       (2, .row [] 9 1 0 2 (encL (fun s => [.str s]) [] [qad ts (adv p), qad ts (qg ts (adv p))]))] 3 := by
  have h1 := h.step (qi ht h.at_ hs)
  have e1 : took ts p qdr = adv p := if_pos hs
  refine qci (T := tab Tryz.prog) (C := {}) 600 (fun _ => rfl) Tryz.func148 rfl (by kernel_rfl) (by kernel_rfl) (fun c0 rdb mpb => ?_)
  (repeat' ((conv => whnf); first | refine zA ?_ | refine zO ?_ | refine Ob.auto ?_ | refine zD 600 ?_ | (apply zB <;> intro hb <;> (try simp [-zd] at hb) <;> try (exfalso; omega)) | refine Ob.intro ?_ ?_))
  ((conv => whnf); refine zT 600 [0] (qav ht h.at_ qdr) qa ?_)
  rw [hs, e1]
  (repeat' ((conv => whnf); first | refine zA ?_ | refine zO ?_ | refine Ob.auto ?_ | refine zD 600 ?_ | (apply zB <;> intro hb <;> (try simp [-zd] at hb) <;> try (exfalso; omega)) | refine Ob.intro ?_ ?_))
  have h2 := h1.step (qas ht h1.at_)
  have h3 := h2.step (qas ht h2.at_)
  (repeat' ((conv => whnf); first | refine zA ?_ | refine zO ?_ | refine Ob.auto ?_ | refine zD 600 ?_ | (refine jb (fun _ => rfl) (by kernel_rfl) 600 ?_) | (apply zB <;> intro hb <;> (try simp [-zd] at hb) <;> try (exfalso; omega)) | refine Ob.intro ?_ ?_))
  ((conv => whnf); refine CallY.trip [0] (qie ht h1.at_) (by kernel_rfl) leA qa (by exact qb rfl) (by exact qb rfl) ?_)
  (repeat' ((conv => whnf); first | refine zO ?_ | refine Ob.auto ?_ | refine zD 600 ?_ | (refine jb (fun _ => rfl) (by kernel_rfl) 600 ?_) | (apply zB <;> intro hb <;> (try simp [-zd] at hb) <;> try (exfalso; omega)) | refine Ob.intro ?_ ?_))
  ((conv => whnf); refine AltG.far 13 [1] (by kernel_rfl) farA (EndG.go ?_))
  (repeat' ((conv => whnf); first | refine zA ?_ | refine zO ?_ | refine Ob.auto ?_ | refine zD 600 ?_ | (refine jb (fun _ => rfl) (by kernel_rfl) 600 ?_) | (apply zB <;> intro hb <;> (try simp [-zd] at hb) <;> try (exfalso; omega)) | refine Ob.intro ?_ ?_))
  ((conv => whnf); refine CallY.trip [0] (qie ht h2.at_) (by kernel_rfl) leA qa (by exact qb rfl) (by exact qb rfl) ?_)
  (repeat' ((conv => whnf); first | refine zO ?_ | refine Ob.auto ?_ | refine zD 600 ?_ | (refine jb (fun _ => rfl) (by kernel_rfl) 600 ?_) | (apply zB <;> intro hb <;> (try simp [-zd] at hb) <;> try (exfalso; omega)) | refine Ob.intro ?_ ?_))
  ((conv => whnf); refine AltG.far 13 [1] (by kernel_rfl) farA (EndG.go ?_))
  (repeat' ((conv => whnf); first | refine zA ?_ | refine zO ?_ | refine Ob.auto ?_ | refine zD 600 ?_ | (apply zB <;> intro hb <;> (try simp [-zd] at hb) <;> try (exfalso; omega)) | refine Ob.intro ?_ ?_))
  ((conv => whnf); refine zT 600 [0] (qaz ht h3.at_ qu) qa ?_)
  (repeat' ((conv => whnf); first | refine zA ?_ | refine zO ?_ | refine Ob.auto ?_ | refine zD 600 ?_ | (apply zB <;> intro hb <;> (try simp [-zd] at hb) <;> try (exfalso; omega)) | refine Ob.intro ?_ ?_))
  exact ⟨Le.refl _, SoLe.refl _, ⟨rfl, Le.refl _, Le.refl _, Le.refl _, Le.refl _, Le.refl _, Le.refl _, trivial⟩, ⟨⟨rfl, rfl, rfl⟩, rfl, rfl, fun j hj => by match j, hj with | 0, _ => exact LeL.refl _ | 1, _ => exact LeL.refl _⟩, trivial⟩
theorem jbv (ht : ToksOk ts) (h : Pre ts n p) (hr : sees ts p qdr = false) (hs : sees ts p qfa = true) (i a : Int) :
    Trip Tryz.prog 148 [.ptr 0 0, .ptr 1 0] [pso ts p, .box 106 [iv 6, .nils, ints [i], .nils, iv a, .nils]] (.tup [])
      [(0, pso ts (must ts (eF ts (adv p)).2 qu)), (1, .box 106 [iv 9, .nils, ints [i], .nils, iv a, .own 10 0 0 1]),
       (10, .row [] 106 6 0 1 (qce [(eF ts (adv p)).1]))] 11 := by
  have h1 := h.step (qi ht h.at_ hs)
  have e0 : took ts p qdr = p := if_neg (by rw [hr]; decide)
  have e1 : took ts p qfa = adv p := if_pos hs
  refine qci (T := tab Tryz.prog) (C := {}) 600 (fun _ => rfl) Tryz.func148 rfl (by kernel_rfl) (by kernel_rfl) (fun c0 rdb mpb => ?_)
  (repeat' ((conv => whnf); first | refine zA ?_ | refine zO ?_ | refine Ob.auto ?_ | refine zD 600 ?_ | (apply zB <;> intro hb <;> (try simp [-zd] at hb) <;> try (exfalso; omega)) | refine Ob.intro ?_ ?_))
  ((conv => whnf); refine zT 600 [0] (qav ht h.at_ qdr) qa ?_)
  rw [hr, e0]
  (repeat' ((conv => whnf); first | refine zA ?_ | refine zO ?_ | refine Ob.auto ?_ | refine zD 600 ?_ | (apply zB <;> intro hb <;> (try simp [-zd] at hb) <;> try (exfalso; omega)) | refine Ob.intro ?_ ?_))
  ((conv => whnf); refine zT 600 [0] (qav ht h.at_ qfa) qa ?_)
  rw [hs, e1]
  (repeat' ((conv => whnf); first | refine zA ?_ | refine zO ?_ | refine Ob.auto ?_ | refine zD 600 ?_ | (apply zB <;> intro hb <;> (try simp [-zd] at hb) <;> try (exfalso; omega)) | refine Ob.intro ?_ ?_))
  have h2 := h1.step (qbi ht _ h1.at_)
  ((conv => whnf); refine qbh (fun _ => rfl) (by kernel_rfl) 600 [.turn [0] [.ptr 0 0] [pso ts (adv p)] (eF ts (adv p)).1.av [(0, pso ts (eF ts (adv p)).2)]] (by kernel_rfl) ?_)
  (repeat' ((conv => whnf); first | refine zA ?_ | refine zO ?_ | refine Ob.auto ?_ | refine zD 600 ?_ | (apply zB <;> intro hb <;> (try simp [-zd] at hb) <;> try (exfalso; omega)) | refine Ob.intro ?_ ?_))
  · exact ⟨e_rd ht h1.full, by kernel_rfl, leA, qa, by exact qb rfl, by exact qb rfl⟩
  ((conv => whnf); refine zT 600 [0] (qaz ht h2.at_ qu) qa ?_)
  (repeat' ((conv => whnf); first | refine zA ?_ | refine zO ?_ | refine Ob.auto ?_ | refine zD 600 ?_ | (apply zB <;> intro hb <;> (try simp [-zd] at hb) <;> try (exfalso; omega)) | refine Ob.intro ?_ ?_))
  exact ⟨Le.refl _, SoLe.refl _, ⟨rfl, Le.refl _, Le.refl _, Le.refl _, Le.refl _, Le.refl _, Le.refl _, trivial⟩, ⟨⟨rfl, rfl, rfl⟩, rfl, rfl, fun j hj => by match j, hj with | 0, _ => exact LeL.of_eq ((show _ = (eF ts (adv p)).1.cells from rfl).trans (Tr.cellsL_get [(eF ts (adv p)).1] 0 (Nat.zero_lt_succ _)).symm)⟩, trivial⟩
theorem jbw (ht : ToksOk ts) {blk : Ps → Tr × Ps} (hB : Runs ts blk) (hbt : ∀ q, Pre ts n q → RdT ts 149 blk q) {m : Nat} (h : Pre ts m p) (hq : Pre ts n (must ts p jg)) (hr : sees ts p qdr = false) (hw : sees ts p qfa = false) (i a : Int) :
    Trip Tryz.prog 148 [.ptr 0 0, .ptr 1 0] [pso ts p, .box 106 [iv 6, .nils, ints [i], .nils, iv a, .nils]] (.tup [])
      [(0, pso ts (orL ts blk ts.length [(blk (must ts p jg)).1] (blk (must ts p jg)).2).2), (1, .box 106 [iv 10, .nils, ints [i], .nils, iv a, .own 10 0 0 (orL ts blk ts.length [(blk (must ts p jg)).1] (blk (must ts p jg)).2).1.length]),
       (10, .row [] 106 6 0 (orL ts blk ts.length [(blk (must ts p jg)).1] (blk (must ts p jg)).2).1.length (qce (orL ts blk ts.length [(blk (must ts p jg)).1] (blk (must ts p jg)).2).1))] 11 := by
  have e0 : took ts p qdr = p := if_neg (by rw [hr]; decide)
  have e1 : took ts p qfa = p := if_neg (by rw [hw]; decide)
  refine qci (T := tab Tryz.prog) (C := {}) 600 (fun _ => rfl) Tryz.func148 rfl (by kernel_rfl) (by kernel_rfl) (fun c0 rdb mpb => ?_)
  (repeat' ((conv => whnf); first | refine zA ?_ | refine zO ?_ | refine Ob.auto ?_ | refine zD 600 ?_ | (apply zB <;> intro hb <;> (try simp [-zd] at hb) <;> try (exfalso; omega)) | refine Ob.intro ?_ ?_))
  ((conv => whnf); refine zT 600 [0] (qav ht h.at_ qdr) qa ?_)
  rw [hr, e0]
  (repeat' ((conv => whnf); first | refine zA ?_ | refine zO ?_ | refine Ob.auto ?_ | refine zD 600 ?_ | (apply zB <;> intro hb <;> (try simp [-zd] at hb) <;> try (exfalso; omega)) | refine Ob.intro ?_ ?_))
  ((conv => whnf); refine zT 600 [0] (qav ht h.at_ qfa) qa ?_)
  rw [hw, e1]
  (repeat' ((conv => whnf); first | refine zA ?_ | refine zO ?_ | refine Ob.auto ?_ | refine zD 600 ?_ | (apply zB <;> intro hb <;> (try simp [-zd] at hb) <;> try (exfalso; omega)) | refine Ob.intro ?_ ?_))
  ((conv => whnf); refine zT 600 [0] (qaz ht h.at_ jg) qa ?_)
  (repeat' ((conv => whnf); first | refine zA ?_ | refine zO ?_ | refine Ob.auto ?_ | refine zD 600 ?_ | (apply zB <;> intro hb <;> (try simp [-zd] at hb) <;> try (exfalso; omega)) | refine Ob.intro ?_ ?_))
  have hqb := hq.step (hB _ hq.at_)
  ((conv => whnf); refine qbh (fun _ => rfl) (by kernel_rfl) 600 [.turn [0] [.ptr 0 0] [pso ts (must ts p jg)] (blk (must ts p jg)).1.av [(0, pso ts (blk (must ts p jg)).2)]] (by kernel_rfl) ?_)
  (repeat' ((conv => whnf); first | refine zA ?_ | refine zO ?_ | refine Ob.auto ?_ | refine zD 600 ?_ | (apply zB <;> intro hb <;> (try simp [-zd] at hb) <;> try (exfalso; omega)) | refine Ob.intro ?_ ?_))
  · exact ⟨hbt _ hq, by kernel_rfl, leA, qa, by exact qb rfl, by exact qb rfl⟩
  ((conv => whnf); refine qp (fun _ => rfl) 600 1 (fun _ : Nat × List Tr × Ps => []) (fun g => [(10, .row [] 106 6 0 g.2.1.length (qce g.2.1)), (1, .box 106 [iv 10, .nils, ints [i], .nils, iv a, .own 10 0 0 g.2.1.length]), (0, pso ts g.2.2)]) (fun g => Pre ts n g.2.2 ∧ orL ts blk g.1 g.2.1 g.2.2 = orL ts blk ts.length [(blk (must ts p jg)).1] (blk (must ts p jg)).2 ∧ (ts.length : Int) - g.2.2.at_ ≤ g.1 ∧ g.2.1.length + g.1 ≤ 1 + ts.length) (fun g => g.1) ((ts.length, [(blk (must ts p jg)).1], (blk (must ts p jg)).2)) (⟨hqb, rfl, by have := hqb.at_.lo; simp only; omega, by simp⟩) qa ⟨⟨⟨rfl, rfl, rfl⟩, rfl, rfl, fun j hj => by match j, hj with | 0, _ => exact LeL.of_eq ((show _ = (blk (must ts p jg)).1.cells from rfl).trans (Tr.cellsL_get [(blk (must ts p jg)).1] 0 (Nat.zero_lt_succ _)).symm)⟩, ⟨rfl, Le.refl _, Le.refl _, Le.refl _, Le.refl _, Le.refl _, Le.refl _, trivial⟩, SoLe.refl _, trivial⟩ (fun _ => rfl) (by kernel_rfl) ?_; (conv => whnf))
  rintro ⟨m, l, r⟩ ⟨hP, hj, hk, hl⟩
  simp only at hP hj hk hl
  have h8 := ht.len
  (repeat' ((conv => whnf); first | refine zA ?_ | refine zO ?_ | refine Ob.auto ?_ | refine zD 600 ?_ | (apply zB <;> intro hb <;> (try simp [-zd] at hb) <;> try (exfalso; omega)) | refine Ob.intro ?_ ?_))
  ((conv => whnf); refine zT 600 [0] (qav ht hP.at_ kOr) qa ?_)
  (repeat' ((conv => whnf); first | refine zA ?_ | refine zO ?_ | refine Ob.auto ?_ | refine zD 600 ?_ | (apply zB <;> intro hb <;> (try simp [-zd] at hb) <;> try (exfalso; omega)) | refine Ob.intro ?_ ?_))
  · have e2 : took ts r kOr = adv r := if_pos (by assumption)
    have hsO : sees ts r kOr = true := by assumption
    have hQ := hP.step (qi ht hP.at_ hsO)
    have hm : 1 ≤ m := by have := hP.at_.hi; omega
    obtain ⟨m, rfl⟩ : ∃ m', m = m' + 1 := ⟨m - 1, by omega⟩
    rw [orL, if_pos hsO] at hj
    dsimp only
    rw [e2]
    ((conv => whnf); refine qbh (fun _ => rfl) (by kernel_rfl) 600 [.turn [0] [.ptr 0 0] [pso ts (adv r)] (blk (adv r)).1.av [(0, pso ts (blk (adv r)).2)]] (by kernel_rfl) ?_)
    (repeat' ((conv => whnf); first | refine zA ?_ | refine zO ?_ | refine Ob.auto ?_ | refine zI ?_ | refine zD 600 ?_ | (apply zB <;> intro hb <;> (try simp [-zd] at hb) <;> try (exfalso; omega)) | refine Ob.intro ?_ ?_))
    · exact ⟨hbt _ hQ, by kernel_rfl, leA, qa, by exact qb rfl, by exact qb rfl⟩
    have hst := hB _ hQ.at_
    have hle : r.at_ + 1 ≤ (blk (adv r)).2.at_ := hst.le
    ((conv => whnf); refine ⟨(m, l ++ [(blk (adv r)).1], (blk (adv r)).2), ⟨hQ.step hst, hj, by simp only; omega, by simp; omega⟩, ⟨qa, ⟨⟨⟨rfl, rfl, rfl⟩, rfl, by simp, qpk (t := (blk (adv r)).1) (by simp) rfl⟩, ⟨rfl, Le.refl _, Le.refl _, Le.refl _, Le.refl _, Le.refl _, Le.of_eq (congrArg (AV.own _ _ _) (by simp)), trivial⟩, qa⟩⟩, ⟨qa, qa⟩, ?_⟩; (first | omega | (dsimp only; omega) | skip))
  · have hsO : sees ts r kOr = false := by assumption
    have e2 : took ts r kOr = r := if_neg (by rw [hsO]; decide)
    have e3 : (l, r) = orL ts blk ts.length [(blk (must ts p jg)).1] (blk (must ts p jg)).2 := by
      rw [← hj]
      cases m with
      | zero => rfl
      | succ m => rw [orL, if_neg (by rw [hsO]; decide)]
    rw [← e3]
    dsimp only
    rw [e2]
    exact ⟨Le.refl _, qa⟩
end
end Go.Proofs.YtdoaagphhjggbaaGreat
