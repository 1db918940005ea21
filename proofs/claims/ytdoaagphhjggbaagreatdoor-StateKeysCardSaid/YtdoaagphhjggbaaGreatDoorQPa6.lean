/- Contracts of the document's parser: blocks and statements. -/
import Derived.Test.YtdoaagphhjggbaaGreatDoorQPa5
import Derived.Test.YtdoaagphhjggbaaGreatDoorQ2
namespace Go.Proofs.YtdoaagphhjggbaaGreatDoor
open List renaming getD_eq_getElem?_getD → zd
open Go Go.Sx Go.RowKit Go.St Pa
set_option maxRecDepth 100000
set_option maxHeartbeats 4000000
section
variable {ts : List Lx.Tok} {p q : Ps} {n : Nat}
theorem Pre.inW (h : Pre ts n p) (k : Step ts p q) (hg : q.err = 0 → p.at_ < q.at_) : PreW ts n (inP ts q) := by
 obtain ⟨i1, i2, i3, i4⟩ := qbz (k.ok h.at_)
 have h1 := h.deep
 have h2 := h.left
 have h3 := k.le
 have h4 := k.deep
 refine ⟨i1, by omega, fun he => ?_, by omega⟩
 have : q.err = 0 := Classical.byContradiction fun hn => by have := (i4 hn).1; omega
 have := hg this
 omega
theorem jy {l : List Tr} {f : Nat → List AV} (h : ∀ i, i < l.length → f i = qbm l i) : Le (.slc 6 l.length f) (qjz l) := Le.slc rfl h
theorem jlu (ht : ToksOk ts) {stat : Ps → Tr × Ps} (hr : Runs ts stat) (hg : qfm ts stat) (hs : ∀ q, Pre ts n q → RdT ts 105 stat q) (h : Pre ts n p) : RdT ts 111 (qm ts stat) p := by
 have h2 := ht.len
 have h3 := h.deep
 have h4 := h.at_.hi
 have hst := qi ht h.at_ sLc
 have hq := h.step hst
 have hqd := hst.deep
 have hw := h.inW hst (fun he => by have := (qfl he).2; omega)
 have hso := qfk ht hr ts.length [] _ hw.at_
 have hd := hso.deep
 have hi := (qbz hq.at_).2.2.1
 refine zM {} 600 Tryz.func111 (fun c0 rdb mpb => ?_)
 (repeat' ((conv => whnf); first | refine zE 600 (qio h.at_ _) ?_ | fail))
 ((conv => whnf); refine zT 600 [0] (qaj ht h.at_ sLc) qa ?_)
 ((conv => whnf); refine zT 600 [0] (qkb hq.at_ (by omega)) qa ?_)
 ((conv => whnf); refine zT 600 [0, 2] (jlt ht hr hg hs hw 16 (tk ts p).pos) qa ?_)
 (repeat' ((conv => whnf); first | refine Ob.auto ?_ | fail))
 (refine ⟨Le.agg ⟨Le.refl _, ?_, ?_, Le.refl _, Le.refl _, ?_, trivial⟩, qa⟩ <;> first | exact Le.nils _ _ | exact Le.refl _ | exact je rfl | exact jl rfl | exact ju rfl | exact js rfl rfl | exact jt rfl rfl | exact jv rfl rfl | exact jx rfl rfl rfl | exact jy (fun _ _ => rfl))
theorem Pre.full (h : Pre ts n p) : Pre ts ts.length p := ⟨h.at_, h.deep, by have := h.at_.lo; omega⟩
theorem jap (ht : ToksOk ts) (h : Pre ts n p) (hs : sees ts p qcq = true) (i a : Int) :
    Trip Tryz.prog 110 [.ptr 0 0, .ptr 1 0] [pso ts p, .box 74 [iv 6, .nils, ints [i], .nils, iv a, .nils]] (.tup [])
      [(0, pso ts (must ts (qd ts (qd ts (adv p))) ql)), (1, .box 74 [iv 8, .own 2 0 0 2, ints [i], .nils, iv a, .nils]),
       (2, .row [] 9 1 0 2 (encL (fun s => [.str s]) [] [jp ts (adv p), jp ts (qd ts (adv p))]))] 3 := by
  have h1 := h.step (qf ht h.at_ hs)
  have e1 : took ts p qcq = adv p := if_pos hs
  refine zM {} 600 Tryz.func110 (fun c0 rdb mpb => ?_)
  ((conv => whnf); refine zT 600 [0] (qag ht h.at_ qcq) qa ?_)
  rw [hs, e1]
  (repeat' ((conv => whnf); first | (apply zB <;> intro hb <;> (try simp [-zd] at hb) <;> try (exfalso; omega))))
  have h2 := h1.step (qad ht h1.at_)
  have h3 := h2.step (qad ht h2.at_)
  (repeat' ((conv => whnf); first | (refine qap (fun _ => rfl) (by kernel_rfl) 600 ?_) | fail))
  ((conv => whnf); refine CallY.trip [0] (qgm ht h1.at_) (by kernel_rfl) leA qa (by exact qb rfl) (by exact qb rfl) ?_)
  (repeat' ((conv => whnf); first | refine Ob.auto ?_ | fail))
  ((conv => whnf); refine AltG.far 13 [1] (by kernel_rfl) farA (EndG.go ?_))
  (repeat' ((conv => whnf); first | (refine qap (fun _ => rfl) (by kernel_rfl) 600 ?_) | fail))
  ((conv => whnf); refine CallY.trip [0] (qgm ht h2.at_) (by kernel_rfl) leA qa (by exact qb rfl) (by exact qb rfl) ?_)
  (repeat' ((conv => whnf); first | refine Ob.auto ?_ | fail))
  ((conv => whnf); refine AltG.far 13 [1] (by kernel_rfl) farA (EndG.go ?_))
  ((conv => whnf); refine zT 600 [0] (qaj ht h3.at_ ql) qa ?_)
  (repeat' ((conv => whnf); first | refine Ob.auto ?_ | fail))
  exact ⟨Le.refl _, SoLe.refl _, ⟨rfl, Le.refl _, Le.refl _, Le.refl _, Le.refl _, Le.refl _, Le.refl _, trivial⟩, ⟨⟨rfl, rfl, rfl⟩, rfl, rfl, fun j hj => by match j, hj with | 0, _ => exact LeL.refl _ | 1, _ => exact LeL.refl _⟩, trivial⟩
theorem jaq (ht : ToksOk ts) (h : Pre ts n p) (hr : sees ts p qcq = false) (hs : sees ts p qdv = true) (i a : Int) :
    Trip Tryz.prog 110 [.ptr 0 0, .ptr 1 0] [pso ts p, .box 74 [iv 6, .nils, ints [i], .nils, iv a, .nils]] (.tup [])
      [(0, pso ts (must ts (eF ts (adv p)).2 ql)), (1, .box 74 [iv 9, .nils, ints [i], .nils, iv a, .own 10 0 0 1]),
       (10, .row [] 74 6 0 1 (qbm [(eF ts (adv p)).1]))] 11 := by
  have h1 := h.step (qf ht h.at_ hs)
  have e0 : took ts p qcq = p := if_neg (by rw [hr]; decide)
  have e1 : took ts p qdv = adv p := if_pos hs
  refine zM {} 600 Tryz.func110 (fun c0 rdb mpb => ?_)
  ((conv => whnf); refine zT 600 [0] (qag ht h.at_ qcq) qa ?_)
  rw [hr, e0]
  (repeat' ((conv => whnf); first | (apply zB <;> intro hb <;> (try simp [-zd] at hb) <;> try (exfalso; omega))))
  ((conv => whnf); refine zT 600 [0] (qag ht h.at_ qdv) qa ?_)
  rw [hs, e1]
  (repeat' ((conv => whnf); first | (apply zB <;> intro hb <;> (try simp [-zd] at hb) <;> try (exfalso; omega))))
  have h2 := h1.step (qat ht _ h1.at_)
  ((conv => whnf); refine qbk (fun _ => rfl) (by kernel_rfl) 600 [.turn [0] [.ptr 0 0] [pso ts (adv p)] (eF ts (adv p)).1.av [(0, pso ts (eF ts (adv p)).2)]] (by kernel_rfl) ?_)
  (repeat' ((conv => whnf); first | refine Ob.auto ?_ | refine Ob.intro ?_ ?_ | fail))
  · exact ⟨e_rd ht h1.full, by kernel_rfl, leA, qa, by exact qb rfl, by exact qb rfl⟩
  ((conv => whnf); refine zT 600 [0] (qaj ht h2.at_ ql) qa ?_)
  (repeat' ((conv => whnf); first | refine Ob.auto ?_ | fail))
  exact ⟨Le.refl _, SoLe.refl _, ⟨rfl, Le.refl _, Le.refl _, Le.refl _, Le.refl _, Le.refl _, Le.refl _, trivial⟩, ⟨⟨rfl, rfl, rfl⟩, rfl, rfl, fun j hj => by match j, hj with | 0, _ => exact LeL.of_eq ((show _ = (eF ts (adv p)).1.cells from rfl).trans (Tr.cellsL_get [(eF ts (adv p)).1] 0 (Nat.zero_lt_succ _)).symm)⟩, trivial⟩
theorem jar (ht : ToksOk ts) {blk : Ps → Tr × Ps} (hB : Runs ts blk) (hbt : ∀ q, Pre ts n q → RdT ts 111 blk q) {m : Nat} (h : Pre ts m p) (hq : Pre ts n (must ts p qx)) (hr : sees ts p qcq = false) (hw : sees ts p qdv = false) (i a : Int) :
    Trip Tryz.prog 110 [.ptr 0 0, .ptr 1 0] [pso ts p, .box 74 [iv 6, .nils, ints [i], .nils, iv a, .nils]] (.tup [])
      [(0, pso ts (orL ts blk ts.length [(blk (must ts p qx)).1] (blk (must ts p qx)).2).2), (1, .box 74 [iv 10, .nils, ints [i], .nils, iv a, .own 10 0 0 (orL ts blk ts.length [(blk (must ts p qx)).1] (blk (must ts p qx)).2).1.length]),
       (10, .row [] 74 6 0 (orL ts blk ts.length [(blk (must ts p qx)).1] (blk (must ts p qx)).2).1.length (qbm (orL ts blk ts.length [(blk (must ts p qx)).1] (blk (must ts p qx)).2).1))] 11 := by
  have e0 : took ts p qcq = p := if_neg (by rw [hr]; decide)
  have e1 : took ts p qdv = p := if_neg (by rw [hw]; decide)
  refine zM {} 600 Tryz.func110 (fun c0 rdb mpb => ?_)
  ((conv => whnf); refine zT 600 [0] (qag ht h.at_ qcq) qa ?_)
  rw [hr, e0]
  (repeat' ((conv => whnf); first | (apply zB <;> intro hb <;> (try simp [-zd] at hb) <;> try (exfalso; omega))))
  ((conv => whnf); refine zT 600 [0] (qag ht h.at_ qdv) qa ?_)
  rw [hw, e1]
  (repeat' ((conv => whnf); first | (apply zB <;> intro hb <;> (try simp [-zd] at hb) <;> try (exfalso; omega))))
  ((conv => whnf); refine zT 600 [0] (qaj ht h.at_ qx) qa ?_)
  have hqb := hq.step (hB _ hq.at_)
  ((conv => whnf); refine qbk (fun _ => rfl) (by kernel_rfl) 600 [.turn [0] [.ptr 0 0] [pso ts (must ts p qx)] (blk (must ts p qx)).1.av [(0, pso ts (blk (must ts p qx)).2)]] (by kernel_rfl) ?_)
  (repeat' ((conv => whnf); first | refine Ob.auto ?_ | refine Ob.intro ?_ ?_ | fail))
  · exact ⟨hbt _ hq, by kernel_rfl, leA, qa, by exact qb rfl, by exact qb rfl⟩
  ((conv => whnf); refine qo (fun _ => rfl) 600 1 (fun _ : Nat × List Tr × Ps => []) (fun g => [(10, .row [] 74 6 0 g.2.1.length (qbm g.2.1)), (1, .box 74 [iv 10, .nils, ints [i], .nils, iv a, .own 10 0 0 g.2.1.length]), (0, pso ts g.2.2)]) (fun g => Pre ts n g.2.2 ∧ orL ts blk g.1 g.2.1 g.2.2 = orL ts blk ts.length [(blk (must ts p qx)).1] (blk (must ts p qx)).2 ∧ (ts.length : Int) - g.2.2.at_ ≤ g.1 ∧ g.2.1.length + g.1 ≤ 1 + ts.length) (fun g => g.1) ((ts.length, [(blk (must ts p qx)).1], (blk (must ts p qx)).2)) (⟨hqb, rfl, by have := hqb.at_.lo; simp only; omega, by simp⟩) qa ⟨⟨⟨rfl, rfl, rfl⟩, rfl, rfl, fun j hj => by match j, hj with | 0, _ => exact LeL.of_eq ((show _ = (blk (must ts p qx)).1.cells from rfl).trans (Tr.cellsL_get [(blk (must ts p qx)).1] 0 (Nat.zero_lt_succ _)).symm)⟩, ⟨rfl, Le.refl _, Le.refl _, Le.refl _, Le.refl _, Le.refl _, Le.refl _, trivial⟩, SoLe.refl _, trivial⟩ (fun _ => rfl) (by kernel_rfl) ?_; (conv => whnf))
  rintro ⟨m, l, r⟩ ⟨hP, hj, hk, hl⟩
  simp only at hP hj hk hl
  have h8 := ht.len
  ((conv => whnf); refine zT 600 [0] (qag ht hP.at_ kOr) qa ?_)
  (repeat' ((conv => whnf); first | refine Ob.auto ?_ | (apply zB <;> intro hb <;> (try simp [-zd] at hb) <;> try (exfalso; omega))))
  · have e2 : took ts r kOr = adv r := if_pos (by assumption)
    have hsO : sees ts r kOr = true := by assumption
    have hQ := hP.step (qf ht hP.at_ hsO)
    have hm : 1 ≤ m := by have := hP.at_.hi; omega
    obtain ⟨m, rfl⟩ : ∃ m', m = m' + 1 := ⟨m - 1, by omega⟩
    rw [orL, if_pos hsO] at hj
    dsimp only
    rw [e2]
    ((conv => whnf); refine qbk (fun _ => rfl) (by kernel_rfl) 600 [.turn [0] [.ptr 0 0] [pso ts (adv r)] (blk (adv r)).1.av [(0, pso ts (blk (adv r)).2)]] (by kernel_rfl) ?_)
    (repeat' ((conv => whnf); first | refine Ob.auto ?_ | refine Ob.intro ?_ ?_ | fail))
    · exact ⟨hbt _ hQ, by kernel_rfl, leA, qa, by exact qb rfl, by exact qb rfl⟩
    have hst := hB _ hQ.at_
    have hle : r.at_ + 1 ≤ (blk (adv r)).2.at_ := hst.le
    ((conv => whnf); refine ⟨(m, l ++ [(blk (adv r)).1], (blk (adv r)).2), ⟨hQ.step hst, hj, by simp only; omega, by simp; omega⟩, ⟨qa, ⟨⟨⟨rfl, rfl, rfl⟩, rfl, by simp, qmm (t := (blk (adv r)).1) (by simp) rfl⟩, ⟨rfl, Le.refl _, Le.refl _, Le.refl _, Le.refl _, Le.refl _, Le.of_eq (congrArg (AV.own _ _ _) (by simp)), trivial⟩, qa⟩⟩, ⟨qa, qa⟩, ?_⟩; (first | omega | (dsimp only; omega) | skip))
  · have hsO : sees ts r kOr = false := by assumption
    have e2 : took ts r kOr = r := if_neg (by rw [hsO]; decide)
    have e3 : (l, r) = orL ts blk ts.length [(blk (must ts p qx)).1] (blk (must ts p qx)).2 := by
      rw [← hj]
      cases m with
      | zero => rfl
      | succ m => rw [orL, if_neg (by rw [hsO]; decide)]
    rw [← e3]
    dsimp only
    rw [e2]
    exact ⟨Le.refl _, qa⟩
end
end Go.Proofs.YtdoaagphhjggbaaGreatDoor
