/- Contracts of the document's parser: blocks and statements. -/
import Derived.Test.YtdoaagphhjggbaaQ29
import Derived.Test.YtdoaagphhjggbaaQ2
namespace Go.Proofs.Ytdoaagphhjggbaa
open Go Go.Sx Go.RowKit Go.St Pa
set_option maxRecDepth 100000
set_option maxHeartbeats 4000000

section
variable {ts : List Lx.Tok} {p q : Ps} {n : Nat}

theorem Pre.inW (h : Pre ts n p) (k : Step ts p q) (hg : q.err = 0 → p.at_ < q.at_) : PreW ts n (inP ts q) := by
  obtain ⟨i1, i2, i3, i4⟩ := at_in (k.ok h.at_)
  have h1 := h.deep
  have h2 := h.left
  have h3 := k.le
  have h4 := k.deep
  refine ⟨i1, by omega, fun he => ?_, by omega⟩
  have : q.err = 0 := Classical.byContradiction fun hn => by have := (i4 hn).1; omega
  have := hg this
  omega

theorem kidsR_le {l : List Tr} {f : Nat → List AV} (h : ∀ i, i < l.length → f i = kidsR l i) : Le (.slc 6 l.length f) (kidsV l) := Le.slc rfl h

theorem block_rd (ht : ToksOk ts) {stat : Ps → Tr × Ps} (hr : Runs ts stat) (hg : Gains ts stat) (hs : ∀ q, Pre ts n q → RdT ts 116 stat q) (h : Pre ts n p) : RdT ts 120 (blockF ts stat) p := by
  have h2 := ht.len
  have h3 := h.deep
  have h4 := h.at_.hi
  have hst := step_must ht h.at_ sLc
  have hq := h.step hst
  have hqd := hst.deep
  have hw := h.inW hst (fun he => by have := (must_ok he).2; omega)
  have hso := step_stats ht hr ts.length [] _ hw.at_
  have hd := hso.deep
  have hi := (at_in hq.at_).2.2.1
  refine trip_of_exec_frz (T := tab Try.prog) (C := {}) 600 (fun _ => rfl) Try.func120 rfl (by kernel_rfl) (by kernel_rfl) (fun c0 rdb mpb => ?_)
  (repeat' ((conv => whnf); first | refine zA ?_ | refine zO ?_ | refine Ob.auto ?_ | refine zC 600 (pbegin_con h.at_ _) ?_ | refine zG 600 (fun hg => pbegin_con h.at_ _) ?_ | (refine CallY.con (pbegin_con h.at_ _) (by rfl) leA ?_) | (refine CallZ.con (fun hg => pbegin_con h.at_ _) rflsA (by rfl) ?_) | refine zE 600 (pbegin_con h.at_ _) ?_ | refine zF 600 (fun hg => pbegin_con h.at_ _) ?_ | refine zD 600 ?_ | (refine Br.intro (fun hb => ?_) (fun hb => ?_) <;> (try simp [-List.getD_eq_getElem?_getD] at hb) <;> (try (exfalso; omega))) | refine Ob.intro ?_ ?_))
  ((conv => whnf); refine zT 600 [0] (pmust_trip ht h.at_ sLc) subtA ?_)
  (repeat' ((conv => whnf); first | refine zA ?_ | refine zO ?_ | refine Ob.auto ?_ | refine zD 600 ?_ | (refine Br.intro (fun hb => ?_) (fun hb => ?_) <;> (try simp [-List.getD_eq_getElem?_getD] at hb) <;> (try (exfalso; omega))) | refine Ob.intro ?_ ?_))
  ((conv => whnf); refine zT 600 [0] (pin_trip hq.at_ (by omega)) subtA ?_)
  (repeat' ((conv => whnf); first | refine zA ?_ | refine zO ?_ | refine Ob.auto ?_ | refine zD 600 ?_ | (refine Br.intro (fun hb => ?_) (fun hb => ?_) <;> (try simp [-List.getD_eq_getElem?_getD] at hb) <;> (try (exfalso; omega))) | refine Ob.intro ?_ ?_))
  ((conv => whnf); refine zT 600 [0, 2] (stats_nil ht hr hg hs hw 16 (tk ts p).pos) subtA ?_)
  (repeat' ((conv => whnf); first | refine zA ?_ | refine zO ?_ | refine Ob.auto ?_ | (refine Ob.intro (by (exact inR_i64 (by omega) (by omega))) ?_) | refine zD 600 ?_ | (refine Br.intro (fun hb => ?_) (fun hb => ?_) <;> (try simp [-List.getD_eq_getElem?_getD] at hb) <;> (try (exfalso; omega))) | refine Ob.intro ?_ ?_))
  (refine ⟨Le.agg ⟨Le.refl _, ?_, ?_, Le.refl _, Le.refl _, ?_, trivial⟩, subtA⟩ <;> first | exact Le.nils _ _ | exact Le.refl _ | exact one_int rfl | exact one_str rfl | exact kids_one rfl | exact two_int rfl rfl | exact two_str rfl rfl | exact kids_two' rfl rfl | exact kids_three rfl rfl rfl | exact kidsR_le (fun _ _ => rfl))

theorem Pre.full (h : Pre ts n p) : Pre ts ts.length p := ⟨h.at_, h.deep, by have := h.at_.lo; omega⟩

theorem recv_tr (ht : ToksOk ts) (h : Pre ts n p) (hs : sees ts p kRecv = true) (i a : Int) :
    Trip Try.prog 119 [.ptr 0 0, .ptr 1 0] [pso ts p, .box 89 [iv 6, .nils, ints [i], .nils, iv a, .nils]] (.tup [])
      [(0, pso ts (must ts (nameP ts (nameP ts (adv p))) sSemi)), (1, .box 89 [iv 8, .own 2 0 0 2, ints [i], .nils, iv a, .nils]),
       (2, .row [] 9 1 0 2 (encL (fun s => [.str s]) [] [nameW ts (adv p), nameW ts (nameP ts (adv p))]))] 3 := by
  have h1 := h.step (sees_adv ht h.at_ hs)
  have e1 : took ts p kRecv = adv p := if_pos hs
  refine trip_of_exec_frz (T := tab Try.prog) (C := {}) 600 (fun _ => rfl) Try.func119 rfl (by kernel_rfl) (by kernel_rfl) (fun c0 rdb mpb => ?_)
  (repeat' ((conv => whnf); first | refine zA ?_ | refine zO ?_ | refine Ob.auto ?_ | refine zD 600 ?_ | (refine Br.intro (fun hb => ?_) (fun hb => ?_) <;> (try simp [-List.getD_eq_getElem?_getD] at hb) <;> (try (exfalso; omega))) | refine Ob.intro ?_ ?_))
  ((conv => whnf); refine zT 600 [0] (ptake_trip ht h.at_ kRecv) subtA ?_)
  rw [hs, e1]
  (repeat' ((conv => whnf); first | refine zA ?_ | refine zO ?_ | refine Ob.auto ?_ | refine zD 600 ?_ | (refine Br.intro (fun hb => ?_) (fun hb => ?_) <;> (try simp [-List.getD_eq_getElem?_getD] at hb) <;> (try (exfalso; omega))) | refine Ob.intro ?_ ?_))
  have h2 := h1.step (step_name ht h1.at_)
  have h3 := h2.step (step_name ht h2.at_)
  (repeat' ((conv => whnf); first | refine zA ?_ | refine zO ?_ | refine Ob.auto ?_ | refine zD 600 ?_ | (refine draw4f (fun _ => rfl) (by kernel_rfl) 600 ?_) | (refine Br.intro (fun hb => ?_) (fun hb => ?_) <;> (try simp [-List.getD_eq_getElem?_getD] at hb) <;> (try (exfalso; omega))) | refine Ob.intro ?_ ?_))
  ((conv => whnf); refine CallY.trip [0] (pname_trip ht h1.at_) (by kernel_rfl) leA subtA (by exact rowsLt_nil rfl) (by exact rowsLt_nil rfl) ?_)
  (repeat' ((conv => whnf); first | refine zO ?_ | refine Ob.auto ?_ | refine zD 600 ?_ | (refine draw4f (fun _ => rfl) (by kernel_rfl) 600 ?_) | (refine Br.intro (fun hb => ?_) (fun hb => ?_) <;> (try simp [-List.getD_eq_getElem?_getD] at hb) <;> (try (exfalso; omega))) | refine Ob.intro ?_ ?_))
  ((conv => whnf); refine AltG.far 13 [1] (by kernel_rfl) farA (EndG.go ?_))
  (repeat' ((conv => whnf); first | refine zA ?_ | refine zO ?_ | refine Ob.auto ?_ | refine zD 600 ?_ | (refine draw4f (fun _ => rfl) (by kernel_rfl) 600 ?_) | (refine Br.intro (fun hb => ?_) (fun hb => ?_) <;> (try simp [-List.getD_eq_getElem?_getD] at hb) <;> (try (exfalso; omega))) | refine Ob.intro ?_ ?_))
  ((conv => whnf); refine CallY.trip [0] (pname_trip ht h2.at_) (by kernel_rfl) leA subtA (by exact rowsLt_nil rfl) (by exact rowsLt_nil rfl) ?_)
  (repeat' ((conv => whnf); first | refine zO ?_ | refine Ob.auto ?_ | refine zD 600 ?_ | (refine draw4f (fun _ => rfl) (by kernel_rfl) 600 ?_) | (refine Br.intro (fun hb => ?_) (fun hb => ?_) <;> (try simp [-List.getD_eq_getElem?_getD] at hb) <;> (try (exfalso; omega))) | refine Ob.intro ?_ ?_))
  ((conv => whnf); refine AltG.far 13 [1] (by kernel_rfl) farA (EndG.go ?_))
  (repeat' ((conv => whnf); first | refine zA ?_ | refine zO ?_ | refine Ob.auto ?_ | refine zD 600 ?_ | (refine Br.intro (fun hb => ?_) (fun hb => ?_) <;> (try simp [-List.getD_eq_getElem?_getD] at hb) <;> (try (exfalso; omega))) | refine Ob.intro ?_ ?_))
  ((conv => whnf); refine zT 600 [0] (pmust_trip ht h3.at_ sSemi) subtA ?_)
  (repeat' ((conv => whnf); first | refine zA ?_ | refine zO ?_ | refine Ob.auto ?_ | refine zD 600 ?_ | (refine Br.intro (fun hb => ?_) (fun hb => ?_) <;> (try simp [-List.getD_eq_getElem?_getD] at hb) <;> (try (exfalso; omega))) | refine Ob.intro ?_ ?_))
  exact ⟨Le.refl _, SoLe.refl _, ⟨rfl, Le.refl _, Le.refl _, Le.refl _, Le.refl _, Le.refl _, Le.refl _, trivial⟩, ⟨⟨rfl, rfl, rfl⟩, rfl, rfl, fun j hj => by match j, hj with | 0, _ => exact LeL.refl _ | 1, _ => exact LeL.refl _⟩, trivial⟩

theorem when_tr (ht : ToksOk ts) (h : Pre ts n p) (hr : sees ts p kRecv = false) (hs : sees ts p kWhen = true) (i a : Int) :
    Trip Try.prog 119 [.ptr 0 0, .ptr 1 0] [pso ts p, .box 89 [iv 6, .nils, ints [i], .nils, iv a, .nils]] (.tup [])
      [(0, pso ts (must ts (eF ts (adv p)).2 sSemi)), (1, .box 89 [iv 9, .nils, ints [i], .nils, iv a, .own 10 0 0 1]),
       (10, .row [] 89 6 0 1 (kidsR [(eF ts (adv p)).1]))] 11 := by
  have h1 := h.step (sees_adv ht h.at_ hs)
  have e0 : took ts p kRecv = p := if_neg (by rw [hr]; decide)
  have e1 : took ts p kWhen = adv p := if_pos hs
  refine trip_of_exec_frz (T := tab Try.prog) (C := {}) 600 (fun _ => rfl) Try.func119 rfl (by kernel_rfl) (by kernel_rfl) (fun c0 rdb mpb => ?_)
  (repeat' ((conv => whnf); first | refine zA ?_ | refine zO ?_ | refine Ob.auto ?_ | refine zD 600 ?_ | (refine Br.intro (fun hb => ?_) (fun hb => ?_) <;> (try simp [-List.getD_eq_getElem?_getD] at hb) <;> (try (exfalso; omega))) | refine Ob.intro ?_ ?_))
  ((conv => whnf); refine zT 600 [0] (ptake_trip ht h.at_ kRecv) subtA ?_)
  rw [hr, e0]
  (repeat' ((conv => whnf); first | refine zA ?_ | refine zO ?_ | refine Ob.auto ?_ | refine zD 600 ?_ | (refine Br.intro (fun hb => ?_) (fun hb => ?_) <;> (try simp [-List.getD_eq_getElem?_getD] at hb) <;> (try (exfalso; omega))) | refine Ob.intro ?_ ?_))
  ((conv => whnf); refine zT 600 [0] (ptake_trip ht h.at_ kWhen) subtA ?_)
  rw [hs, e1]
  (repeat' ((conv => whnf); first | refine zA ?_ | refine zO ?_ | refine Ob.auto ?_ | refine zD 600 ?_ | (refine Br.intro (fun hb => ?_) (fun hb => ?_) <;> (try simp [-List.getD_eq_getElem?_getD] at hb) <;> (try (exfalso; omega))) | refine Ob.intro ?_ ?_))
  have h2 := h1.step (runs_e ht _ h1.at_)
  ((conv => whnf); refine draw3 (fun _ => rfl) (by kernel_rfl) 600 [.turn [0] [.ptr 0 0] [pso ts (adv p)] (eF ts (adv p)).1.av [(0, pso ts (eF ts (adv p)).2)]] (by kernel_rfl) ?_)
  (repeat' ((conv => whnf); first | refine zA ?_ | refine zO ?_ | refine Ob.auto ?_ | refine zD 600 ?_ | (refine Br.intro (fun hb => ?_) (fun hb => ?_) <;> (try simp [-List.getD_eq_getElem?_getD] at hb) <;> (try (exfalso; omega))) | refine Ob.intro ?_ ?_))
  · exact ⟨e_rd ht h1.full, by kernel_rfl, leA, subtA, by exact rowsLt_nil rfl, by exact rowsLt_nil rfl⟩
  ((conv => whnf); refine zT 600 [0] (pmust_trip ht h2.at_ sSemi) subtA ?_)
  (repeat' ((conv => whnf); first | refine zA ?_ | refine zO ?_ | refine Ob.auto ?_ | refine zD 600 ?_ | (refine Br.intro (fun hb => ?_) (fun hb => ?_) <;> (try simp [-List.getD_eq_getElem?_getD] at hb) <;> (try (exfalso; omega))) | refine Ob.intro ?_ ?_))
  exact ⟨Le.refl _, SoLe.refl _, ⟨rfl, Le.refl _, Le.refl _, Le.refl _, Le.refl _, Le.refl _, Le.refl _, trivial⟩, ⟨⟨rfl, rfl, rfl⟩, rfl, rfl, fun j hj => by match j, hj with | 0, _ => exact LeL.of_eq ((show _ = (eF ts (adv p)).1.cells from rfl).trans (Tr.cellsL_get [(eF ts (adv p)).1] 0 (Nat.zero_lt_succ _)).symm)⟩, trivial⟩

theorem choose_tr (ht : ToksOk ts) {blk : Ps → Tr × Ps} (hB : Runs ts blk) (hbt : ∀ q, Pre ts n q → RdT ts 120 blk q) {m : Nat} (h : Pre ts m p) (hq : Pre ts n (must ts p kChoose)) (hr : sees ts p kRecv = false) (hw : sees ts p kWhen = false) (i a : Int) :
    Trip Try.prog 119 [.ptr 0 0, .ptr 1 0] [pso ts p, .box 89 [iv 6, .nils, ints [i], .nils, iv a, .nils]] (.tup [])
      [(0, pso ts (orL ts blk ts.length [(blk (must ts p kChoose)).1] (blk (must ts p kChoose)).2).2), (1, .box 89 [iv 10, .nils, ints [i], .nils, iv a, .own 10 0 0 (orL ts blk ts.length [(blk (must ts p kChoose)).1] (blk (must ts p kChoose)).2).1.length]),
       (10, .row [] 89 6 0 (orL ts blk ts.length [(blk (must ts p kChoose)).1] (blk (must ts p kChoose)).2).1.length (kidsR (orL ts blk ts.length [(blk (must ts p kChoose)).1] (blk (must ts p kChoose)).2).1))] 11 := by
  have e0 : took ts p kRecv = p := if_neg (by rw [hr]; decide)
  have e1 : took ts p kWhen = p := if_neg (by rw [hw]; decide)
  refine trip_of_exec_frz (T := tab Try.prog) (C := {}) 600 (fun _ => rfl) Try.func119 rfl (by kernel_rfl) (by kernel_rfl) (fun c0 rdb mpb => ?_)
  (repeat' ((conv => whnf); first | refine zA ?_ | refine zO ?_ | refine Ob.auto ?_ | refine zD 600 ?_ | (refine Br.intro (fun hb => ?_) (fun hb => ?_) <;> (try simp [-List.getD_eq_getElem?_getD] at hb) <;> (try (exfalso; omega))) | refine Ob.intro ?_ ?_))
  ((conv => whnf); refine zT 600 [0] (ptake_trip ht h.at_ kRecv) subtA ?_)
  rw [hr, e0]
  (repeat' ((conv => whnf); first | refine zA ?_ | refine zO ?_ | refine Ob.auto ?_ | refine zD 600 ?_ | (refine Br.intro (fun hb => ?_) (fun hb => ?_) <;> (try simp [-List.getD_eq_getElem?_getD] at hb) <;> (try (exfalso; omega))) | refine Ob.intro ?_ ?_))
  ((conv => whnf); refine zT 600 [0] (ptake_trip ht h.at_ kWhen) subtA ?_)
  rw [hw, e1]
  (repeat' ((conv => whnf); first | refine zA ?_ | refine zO ?_ | refine Ob.auto ?_ | refine zD 600 ?_ | (refine Br.intro (fun hb => ?_) (fun hb => ?_) <;> (try simp [-List.getD_eq_getElem?_getD] at hb) <;> (try (exfalso; omega))) | refine Ob.intro ?_ ?_))
  ((conv => whnf); refine zT 600 [0] (pmust_trip ht h.at_ kChoose) subtA ?_)
  (repeat' ((conv => whnf); first | refine zA ?_ | refine zO ?_ | refine Ob.auto ?_ | refine zD 600 ?_ | (refine Br.intro (fun hb => ?_) (fun hb => ?_) <;> (try simp [-List.getD_eq_getElem?_getD] at hb) <;> (try (exfalso; omega))) | refine Ob.intro ?_ ?_))
  have hqb := hq.step (hB _ hq.at_)
  ((conv => whnf); refine draw3 (fun _ => rfl) (by kernel_rfl) 600 [.turn [0] [.ptr 0 0] [pso ts (must ts p kChoose)] (blk (must ts p kChoose)).1.av [(0, pso ts (blk (must ts p kChoose)).2)]] (by kernel_rfl) ?_)
  (repeat' ((conv => whnf); first | refine zA ?_ | refine zO ?_ | refine Ob.auto ?_ | refine zD 600 ?_ | (refine Br.intro (fun hb => ?_) (fun hb => ?_) <;> (try simp [-List.getD_eq_getElem?_getD] at hb) <;> (try (exfalso; omega))) | refine Ob.intro ?_ ?_))
  · exact ⟨hbt _ hq, by kernel_rfl, leA, subtA, by exact rowsLt_nil rfl, by exact rowsLt_nil rfl⟩
  ((conv => whnf); refine loop_auto (fun _ => rfl) 600 1 (fun _ : Nat × List Tr × Ps => []) (fun g => [(10, .row [] 89 6 0 g.2.1.length (kidsR g.2.1)), (1, .box 89 [iv 10, .nils, ints [i], .nils, iv a, .own 10 0 0 g.2.1.length]), (0, pso ts g.2.2)]) (fun g => Pre ts n g.2.2 ∧ orL ts blk g.1 g.2.1 g.2.2 = orL ts blk ts.length [(blk (must ts p kChoose)).1] (blk (must ts p kChoose)).2 ∧ (ts.length : Int) - g.2.2.at_ ≤ g.1 ∧ g.2.1.length + g.1 ≤ 1 + ts.length) (fun g => g.1) ((ts.length, [(blk (must ts p kChoose)).1], (blk (must ts p kChoose)).2)) (⟨hqb, rfl, by have := hqb.at_.lo; simp only; omega, by simp⟩) subtA ⟨⟨⟨rfl, rfl, rfl⟩, rfl, rfl, fun j hj => by match j, hj with | 0, _ => exact LeL.of_eq ((show _ = (blk (must ts p kChoose)).1.cells from rfl).trans (Tr.cellsL_get [(blk (must ts p kChoose)).1] 0 (Nat.zero_lt_succ _)).symm)⟩, ⟨rfl, Le.refl _, Le.refl _, Le.refl _, Le.refl _, Le.refl _, Le.refl _, trivial⟩, SoLe.refl _, trivial⟩ (fun _ => rfl) (by kernel_rfl) ?_; (conv => whnf))
  rintro ⟨m, l, r⟩ ⟨hP, hj, hk, hl⟩
  simp only at hP hj hk hl
  have h8 := ht.len
  (repeat' ((conv => whnf); first | refine zA ?_ | refine zO ?_ | refine Ob.auto ?_ | refine zD 600 ?_ | (refine Br.intro (fun hb => ?_) (fun hb => ?_) <;> (try simp [-List.getD_eq_getElem?_getD] at hb) <;> (try (exfalso; omega))) | refine Ob.intro ?_ ?_))
  ((conv => whnf); refine zT 600 [0] (ptake_trip ht hP.at_ kOr) subtA ?_)
  (repeat' ((conv => whnf); first | refine zA ?_ | refine zO ?_ | refine Ob.auto ?_ | refine zD 600 ?_ | (refine Br.intro (fun hb => ?_) (fun hb => ?_) <;> (try simp [-List.getD_eq_getElem?_getD] at hb) <;> (try (exfalso; omega))) | refine Ob.intro ?_ ?_))
  · have e2 : took ts r kOr = adv r := if_pos (by assumption)
    have hsO : sees ts r kOr = true := by assumption
    have hQ := hP.step (sees_adv ht hP.at_ hsO)
    have hm : 1 ≤ m := by have := hP.at_.hi; omega
    obtain ⟨m, rfl⟩ : ∃ m', m = m' + 1 := ⟨m - 1, by omega⟩
    rw [orL, if_pos hsO] at hj
    dsimp only
    rw [e2]
    ((conv => whnf); refine draw3 (fun _ => rfl) (by kernel_rfl) 600 [.turn [0] [.ptr 0 0] [pso ts (adv r)] (blk (adv r)).1.av [(0, pso ts (blk (adv r)).2)]] (by kernel_rfl) ?_)
    (repeat' ((conv => whnf); first | refine zA ?_ | refine zO ?_ | refine Ob.auto ?_ | (refine Ob.intro (by (exact ⟨by omega, by omega⟩)) ?_) | refine zD 600 ?_ | (refine Br.intro (fun hb => ?_) (fun hb => ?_) <;> (try simp [-List.getD_eq_getElem?_getD] at hb) <;> (try (exfalso; omega))) | refine Ob.intro ?_ ?_))
    · exact ⟨hbt _ hQ, by kernel_rfl, leA, subtA, by exact rowsLt_nil rfl, by exact rowsLt_nil rfl⟩
    have hst := hB _ hQ.at_
    have hle : r.at_ + 1 ≤ (blk (adv r)).2.at_ := hst.le
    ((conv => whnf); refine ⟨(m, l ++ [(blk (adv r)).1], (blk (adv r)).2), ⟨hQ.step hst, hj, by simp only; omega, by simp; omega⟩, ⟨subtA, ⟨⟨⟨rfl, rfl, rfl⟩, rfl, by simp, kids_put (t := (blk (adv r)).1) (by simp) rfl⟩, ⟨rfl, Le.refl _, Le.refl _, Le.refl _, Le.refl _, Le.refl _, Le.of_eq (congrArg (AV.own _ _ _) (by simp)), trivial⟩, subtA⟩⟩, ⟨subtA, subtA⟩, ?_⟩; (first | omega | (dsimp only; omega) | skip))
  · have hsO : sees ts r kOr = false := by assumption
    have e2 : took ts r kOr = r := if_neg (by rw [hsO]; decide)
    have e3 : (l, r) = orL ts blk ts.length [(blk (must ts p kChoose)).1] (blk (must ts p kChoose)).2 := by
      rw [← hj]
      cases m with
      | zero => rfl
      | succ m => rw [orL, if_neg (by rw [hsO]; decide)]
    rw [← e3]
    dsimp only
    rw [e2]
    exact ⟨Le.refl _, subtA⟩

end

end Go.Proofs.Ytdoaagphhjggbaa
