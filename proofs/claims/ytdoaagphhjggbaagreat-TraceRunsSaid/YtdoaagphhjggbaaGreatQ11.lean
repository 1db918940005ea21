/- Some texts of the library, one behind the other. -/
import Derived.Test.YtdoaagphhjggbaaGreatQPa7
import Derived.Test.YtdoaagphhjggbaaGreatQ2
section
namespace Go.Proofs.YtdoaagphhjggbaaGreat
open List renaming getD_eq_getElem?_getD → zd
open Go Go.Sx Go.RowKit Go.St Pa
set_option maxRecDepth 100000
set_option maxHeartbeats 8000000
section
variable {ts : List Lx.Tok} {p q : Ps} {n : Nat}
theorem joi (ht : ToksOk ts) (h : AtOk ts p) : 0 ≤ numN ts p ∧ numN ts p ≤ 999999 := by
 unfold numN
 split
 ·rename_i hn
  unfold qgx at hn
  simp only [Bool.and_eq_true, beq_iff_eq] at hn
  have h1 := ht.num _ (jaw h) hn.1
  have h2 := qur h1.2 (tk ts p).s.length (Nat.le_refl _)
  rw [List.take_length] at h2
  have h3 : (10 : Int) ^ (tk ts p).s.length ≤ 10 ^ 6 := by exact_mod_cast Nat.pow_le_pow_right (show 0 < 10 by decide) h1.1
  omega
 ·omega
theorem qvd (ht : ToksOk ts) (h : Pre ts n p) : RdT ts 120 (ju ts) p := by
 have h2 := ht.len
 have s1 := ql ht h.at_ kVar
 have h1 := h.step s1
 have s3 := qaq ht h1.at_
 have h3 := h1.step s3
 have h4 := h3.step (ql ht h3.at_ kOf)
 have h5 := h4.step (qbm ht h4.at_)
 refine zM {} 600 Tryz.func120 (fun c0 rdb mpb => ?_)
 (repeat' ((conv => whnf); first | refine zE 600 (qki h.at_ _) ?_ | fail))
 ((conv => whnf); refine zT 600 [0] (qay ht h.at_ kVar) qa ?_)
 (repeat' ((conv => whnf); first | (refine qbd (fun _ => rfl) (by kernel_rfl) 600 ?_) | fail))
 ((conv => whnf); refine CallY.trip [0] (qhv ht h1.at_) (by kernel_rfl) leA qa (by exact qb rfl) (by exact qb rfl) ?_)
 (repeat' ((conv => whnf); first | refine Ob.auto ?_ | fail))
 ((conv => whnf); refine AltG.far 9 [2] (by kernel_rfl) farA (EndG.go ?_))
 ((conv => whnf); refine zT 600 [0] (qay ht h3.at_ kOf) qa ?_)
 ((conv => whnf); refine zT 600 [0] (qkh ht h4.at_) qa ?_)
 ((conv => whnf); refine zT 600 [0] (qav ht h5.at_ sEq) qa ?_)
 cases he : sees ts (numP ts (must ts (qe ts (must ts p kVar)) kOf)) sEq with
 | true =>
  have t1 : took ts (numP ts (must ts (qe ts (must ts p kVar)) kOf)) sEq = adv (numP ts (must ts (qe ts (must ts p kVar)) kOf)) := if_pos he
  have h6 := h5.step (qh ht h5.at_ he)
  rw [t1]
  (repeat' ((conv => whnf); first | (apply zB <;> intro hb <;> (try simp [-zd] at hb) <;> try (exfalso; omega))))
  ((conv => whnf); refine zT 600 [0] (qav ht h6.at_ qfc) qa ?_)
  cases hm : sees ts (adv (numP ts (must ts (qe ts (must ts p kVar)) kOf))) qfc with
  | true =>
   have t2 : took ts (adv (numP ts (must ts (qe ts (must ts p kVar)) kOf))) qfc = adv (adv (numP ts (must ts (qe ts (must ts p kVar)) kOf))) := if_pos hm
   have h7 := h6.step (qh ht h6.at_ hm)
   have h8 := h7.step (qbm ht h7.at_)
   have hb := joi ht h7.at_
   have e5 : ju ts p = (.mk 2 [qae ts (must ts p kVar)] [numN ts (must ts (qe ts (must ts p kVar)) kOf), 0 - numN ts (adv (adv (numP ts (must ts (qe ts (must ts p kVar)) kOf))))] (tk ts p).pos [], must ts (numP ts (adv (adv (numP ts (must ts (qe ts (must ts p kVar)) kOf))))) qt) := by
    unfold ju; simp only; rw [if_pos he, if_pos hm]
   rw [t2, e5]
   (repeat' ((conv => whnf); first | (apply zB <;> intro hb <;> (try simp [-zd] at hb) <;> try (exfalso; omega))))
   ((conv => whnf); refine zT 600 [0] (qkh ht h7.at_) qa ?_)
   (repeat' ((conv => whnf); first | refine Ob.auto ?_ | fail))
   ((conv => whnf); refine zT 600 [0] (qay ht h8.at_ qt) qa ?_)
   (repeat' ((conv => whnf); first | refine Ob.auto ?_ | fail))
   (refine ⟨Le.agg ⟨Le.refl _, ?_, ?_, Le.refl _, Le.refl _, ?_, trivial⟩, qa⟩ <;> first | exact Le.nils _ _ | exact Le.refl _ | exact jn rfl | exact jv rfl | exact qah rfl | exact qaf rfl rfl | exact qag rfl rfl | exact qai rfl rfl | exact qaj rfl rfl rfl | exact qak (fun _ _ => rfl))
  | false =>
   have t2 : took ts (adv (numP ts (must ts (qe ts (must ts p kVar)) kOf))) qfc = adv (numP ts (must ts (qe ts (must ts p kVar)) kOf)) := if_neg (by rw [hm]; decide)
   have h8 := h6.step (qbm ht h6.at_)
   have e5 : ju ts p = (.mk 2 [qae ts (must ts p kVar)] [numN ts (must ts (qe ts (must ts p kVar)) kOf), numN ts (adv (numP ts (must ts (qe ts (must ts p kVar)) kOf)))] (tk ts p).pos [], must ts (numP ts (adv (numP ts (must ts (qe ts (must ts p kVar)) kOf)))) qt) := by
    unfold ju; simp only; rw [if_pos he, if_neg (by rw [hm]; decide)]
   rw [t2, e5]
   (repeat' ((conv => whnf); first | (apply zB <;> intro hb <;> (try simp [-zd] at hb) <;> try (exfalso; omega))))
   ((conv => whnf); refine zT 600 [0] (qkh ht h6.at_) qa ?_)
   ((conv => whnf); refine zT 600 [0] (qay ht h8.at_ qt) qa ?_)
   (repeat' ((conv => whnf); first | refine Ob.auto ?_ | fail))
   (refine ⟨Le.agg ⟨Le.refl _, ?_, ?_, Le.refl _, Le.refl _, ?_, trivial⟩, qa⟩ <;> first | exact Le.nils _ _ | exact Le.refl _ | exact jn rfl | exact jv rfl | exact qah rfl | exact qaf rfl rfl | exact qag rfl rfl | exact qai rfl rfl | exact qaj rfl rfl rfl | exact qak (fun _ _ => rfl))
 | false =>
  have t1 : took ts (numP ts (must ts (qe ts (must ts p kVar)) kOf)) sEq = (numP ts (must ts (qe ts (must ts p kVar)) kOf)) := if_neg (by rw [he]; decide)
  have e5 : ju ts p = (.mk 2 [qae ts (must ts p kVar)] [numN ts (must ts (qe ts (must ts p kVar)) kOf), 0] (tk ts p).pos [], must ts (numP ts (must ts (qe ts (must ts p kVar)) kOf)) qt) := by
   unfold ju; simp only; rw [if_neg (by rw [he]; decide)]
  rw [t1, e5]
  (repeat' ((conv => whnf); first | (apply zB <;> intro hb <;> (try simp [-zd] at hb) <;> try (exfalso; omega))))
  ((conv => whnf); refine zT 600 [0] (qay ht h5.at_ qt) qa ?_)
  (repeat' ((conv => whnf); first | refine Ob.auto ?_ | fail))
  (refine ⟨Le.agg ⟨Le.refl _, ?_, ?_, Le.refl _, Le.refl _, ?_, trivial⟩, qa⟩ <;> first | exact Le.nils _ _ | exact Le.refl _ | exact jn rfl | exact jv rfl | exact qah rfl | exact qaf rfl rfl | exact qag rfl rfl | exact qai rfl rfl | exact qaj rfl rfl rfl | exact qak (fun _ _ => rfl))
theorem joj (ht : ToksOk ts) (h : Pre ts n p) : RdT ts 121 (qdo ts) p := by
 have h2 := ht.len
 have hs0 := ql ht h.at_ qz
 have h1 := h.step hs0
 have hs3 := qaq ht h1.at_
 have h3 := h1.step hs3
 refine zM {} 600 Tryz.func121 (fun c0 rdb mpb => ?_)
 (repeat' ((conv => whnf); first | refine zE 600 (qki h.at_ _) ?_ | fail))
 ((conv => whnf); refine zT 600 [0] (qay ht h.at_ qz) qa ?_)
 (repeat' ((conv => whnf); first | (refine qbd (fun _ => rfl) (by kernel_rfl) 600 ?_) | fail))
 ((conv => whnf); refine CallY.trip [0] (qhv ht h1.at_) (by kernel_rfl) leA qa (by exact qb rfl) (by exact qb rfl) ?_)
 (repeat' ((conv => whnf); first | refine Ob.auto ?_ | fail))
 ((conv => whnf); refine AltG.far 9 [2] (by kernel_rfl) farA (EndG.go ?_))
 ((conv => whnf); refine zT 600 [0] (qav ht h3.at_ qfv) qa ?_)
 cases he : sees ts (qe ts (must ts p qz)) qfv with
 | true =>
  have t1 : took ts (qe ts (must ts p qz)) qfv = adv (qe ts (must ts p qz)) := if_pos he
  have hs6 := hs3.trans (qh ht h3.at_ he)
  have hc := hs6.trans (qbm ht (hs6.ok h1.at_))
  rw [t1]
  (repeat' ((conv => whnf); first | (apply zB <;> intro hb <;> (try simp [-zd] at hb) <;> try (exfalso; omega))))
  ((conv => whnf); refine zT 600 [0] (qkh ht (hs6.ok h1.at_)) qa ?_)
  have hsr := hc.trans (ql ht (hc.ok h1.at_) sLc)
  have hr := h1.step hsr
  ((conv => whnf); refine zT 600 [0] (qay ht (hc.ok h1.at_) sLc) qa ?_)
  ((conv => whnf); refine qqt [0, 1, 2] 2 rfl frzA ?_)
  (conv => whnf)
  refine qcq 2 5 106 6 rfl rfl ?_
  ((conv => whnf); refine qj (fun _ => rfl) 600 1 (fun _ : Nat × List Tr × Ps => []) (fun g => [(4, .row [] 106 6 0 g.2.1.length (qcd g.2.1)), (2, .box 106 [iv 3, strs [qae ts (must ts p qz)], ints [numN ts (adv (qe ts (must ts p qz)))], .nils, iv (tk ts p).pos, .own 4 0 0 g.2.1.length]), (0, pso ts g.2.2)]) (fun g => Step ts (must ts p qz) g.2.2 ∧ qbu ts g.1 g.2.1 g.2.2 = qbu ts ts.length [] (must ts (numP ts (adv (qe ts (must ts p qz)))) sLc) ∧ (ts.length : Int) - g.2.2.at_ ≤ g.1 ∧ g.2.1.length + g.1 ≤ ts.length) (fun g => g.1) ((ts.length, [], (must ts (numP ts (adv (qe ts (must ts p qz)))) sLc))) (⟨hsr, rfl, by have := hr.at_.lo; simp only; omega, by simp⟩) qa ⟨⟨⟨rfl, rfl, rfl⟩, rfl, rfl, fun j hj => absurd hj (Nat.not_lt_zero j)⟩, ⟨rfl, Le.refl _, jv rfl, jn rfl, Le.refl _, Le.refl _, Le.refl _, trivial⟩, SoLe.refl _, trivial⟩ (fun _ => rfl) (by kernel_rfl) ?_; (conv => whnf))
  rintro ⟨m, l, r⟩ ⟨hS, hj, hk, hl⟩
  simp only at hS hj hk hl
  have hP := h1.step hS
  (repeat' ((conv => whnf); first | refine zE 600 (qfd hP.at_ _) ?_ | (apply zB <;> intro hb <;> (try simp [-zd] at hb) <;> try (exfalso; omega))))
  ·have hsv : sees ts r kVar = true := by assumption
   have hm : 1 ≤ m := by have := hP.at_.hi; omega
   obtain ⟨m, rfl⟩ : ∃ m', m = m' + 1 := ⟨m - 1, by omega⟩
   rw [qbu, if_pos hsv] at hj
   ((conv => whnf); refine qax (fun _ => rfl) (by kernel_rfl) 600 [.turn [0] [.ptr 0 0] [pso ts r] (ju ts r).1.av [(0, pso ts (ju ts r).2)]] (by kernel_rfl) ?_)
   (repeat' ((conv => whnf); first | refine Ob.auto ?_ | refine Ob.intro ?_ ?_ | fail))
   ·exact ⟨qvd ht hP, by kernel_rfl, leA, qa, by exact qb rfl, by exact qb rfl⟩
   have hst := qlw ht _ hP.at_
   have hle := (jbm ht hP.at_).le
   have hle2 : (must ts r kVar).at_ = r.at_ + 1 := by rw [show must ts r kVar = adv r from if_pos hsv]; rfl
   ((conv => whnf); refine ⟨(m, l ++ [(ju ts r).1], (ju ts r).2), ⟨hS.trans hst, hj, by simp only; omega, by simp; omega⟩, ⟨qa, ⟨⟨⟨rfl, rfl, rfl⟩, rfl, by simp, qoc (t := (ju ts r).1) (by simp) rfl⟩, ⟨rfl, Le.refl _, Le.refl _, Le.refl _, Le.refl _, Le.refl _, Le.of_eq (congrArg (AV.own _ _ _) (by simp)), trivial⟩, qa⟩⟩, ⟨qa, qa⟩, ?_⟩; (first | omega | (dsimp only; omega) | skip))
  ·have hsv : sees ts r kVar = false := by assumption
   have hV : qbu ts ts.length [] (must ts (numP ts (adv (qe ts (must ts p qz)))) sLc) = (l, r) := by
    rw [← hj]
    cases m with
    | zero => rfl
    | succ m => rw [qbu, if_neg (by rw [hsv]; decide)]
   have hw := h.inW (hs0.trans hS) (fun he => by have := (qhb (hS.err0 he)).2; have := hS.le; omega)
   have hso := qha ht (qiy ht) ts.length l _ hw.at_
   have hd := hso.deep
   have hi := (qcs hP.at_).2.2.1
   have hrd := hP.deep
   have hra := hP.at_.hi
   have e5 : qdo ts p = (.mk 3 [qae ts (must ts p qz)] [numN ts (adv (qe ts (must ts p qz)))] (tk ts p).pos (jk ts (sF ts) ts.length l (inP ts r)).1, outP (jk ts (sF ts) ts.length l (inP ts r)).2) := by
    unfold qdo
    simp only
    rw [if_pos he, hV]
   rw [e5]
   ((conv => whnf); refine zT 600 [0] (qlx hP.at_ (by omega)) qa ?_)
   ((conv => whnf); refine zT 600 [0, 2, 4] (jbr ht (qiy ht) (jbn ht (by have := h.at_.lo; have := h.at_.hi; omega)) (fun q hq => s_rd ht hq) hw 3 (tk ts p).pos [qae ts (must ts p qz)] [numN ts (adv (qe ts (must ts p qz)))] l (by omega)) (⟨SoLe.refl _, ⟨rfl, Le.refl _, Le.refl _, Le.refl _, Le.refl _, Le.refl _, Le.refl _, trivial⟩, SoLe.refl _, trivial⟩) ?_)
   (repeat' ((conv => whnf); first | refine Ob.auto ?_ | fail))
   (refine ⟨Le.agg ⟨Le.refl _, ?_, ?_, Le.refl _, Le.refl _, ?_, trivial⟩, qa⟩ <;> first | exact Le.nils _ _ | exact Le.refl _ | exact jn rfl | exact jv rfl | exact qah rfl | exact qaf rfl rfl | exact qag rfl rfl | exact qai rfl rfl | exact qaj rfl rfl rfl | exact qak (fun _ _ => rfl))
 | false =>
  have t1 : took ts (qe ts (must ts p qz)) qfv = (qe ts (must ts p qz)) := if_neg (by rw [he]; decide)
  rw [t1]
  have hsr := hs3.trans (ql ht (hs3.ok h1.at_) sLc)
  have hr := h1.step hsr
  (repeat' ((conv => whnf); first | (apply zB <;> intro hb <;> (try simp [-zd] at hb) <;> try (exfalso; omega))))
  ((conv => whnf); refine zT 600 [0] (qay ht (hs3.ok h1.at_) sLc) qa ?_)
  ((conv => whnf); refine qqt [0, 1, 2] 2 rfl frzA ?_)
  (conv => whnf)
  refine qcq 2 5 106 6 rfl rfl ?_
  ((conv => whnf); refine qj (fun _ => rfl) 600 1 (fun _ : Nat × List Tr × Ps => []) (fun g => [(4, .row [] 106 6 0 g.2.1.length (qcd g.2.1)), (2, .box 106 [iv 3, strs [qae ts (must ts p qz)], ints [1], .nils, iv (tk ts p).pos, .own 4 0 0 g.2.1.length]), (0, pso ts g.2.2)]) (fun g => Step ts (must ts p qz) g.2.2 ∧ qbu ts g.1 g.2.1 g.2.2 = qbu ts ts.length [] (must ts (qe ts (must ts p qz)) sLc) ∧ (ts.length : Int) - g.2.2.at_ ≤ g.1 ∧ g.2.1.length + g.1 ≤ ts.length) (fun g => g.1) ((ts.length, [], (must ts (qe ts (must ts p qz)) sLc))) (⟨hsr, rfl, by have := hr.at_.lo; simp only; omega, by simp⟩) qa ⟨⟨⟨rfl, rfl, rfl⟩, rfl, rfl, fun j hj => absurd hj (Nat.not_lt_zero j)⟩, ⟨rfl, Le.refl _, jv rfl, jn rfl, Le.refl _, Le.refl _, Le.refl _, trivial⟩, SoLe.refl _, trivial⟩ (fun _ => rfl) (by kernel_rfl) ?_; (conv => whnf))
  rintro ⟨m, l, r⟩ ⟨hS, hj, hk, hl⟩
  simp only at hS hj hk hl
  have hP := h1.step hS
  (repeat' ((conv => whnf); first | refine zE 600 (qfd hP.at_ _) ?_ | (apply zB <;> intro hb <;> (try simp [-zd] at hb) <;> try (exfalso; omega))))
  ·have hsv : sees ts r kVar = true := by assumption
   have hm : 1 ≤ m := by have := hP.at_.hi; omega
   obtain ⟨m, rfl⟩ : ∃ m', m = m' + 1 := ⟨m - 1, by omega⟩
   rw [qbu, if_pos hsv] at hj
   ((conv => whnf); refine qax (fun _ => rfl) (by kernel_rfl) 600 [.turn [0] [.ptr 0 0] [pso ts r] (ju ts r).1.av [(0, pso ts (ju ts r).2)]] (by kernel_rfl) ?_)
   (repeat' ((conv => whnf); first | refine Ob.auto ?_ | refine Ob.intro ?_ ?_ | fail))
   ·exact ⟨qvd ht hP, by kernel_rfl, leA, qa, by exact qb rfl, by exact qb rfl⟩
   have hst := qlw ht _ hP.at_
   have hle := (jbm ht hP.at_).le
   have hle2 : (must ts r kVar).at_ = r.at_ + 1 := by rw [show must ts r kVar = adv r from if_pos hsv]; rfl
   ((conv => whnf); refine ⟨(m, l ++ [(ju ts r).1], (ju ts r).2), ⟨hS.trans hst, hj, by simp only; omega, by simp; omega⟩, ⟨qa, ⟨⟨⟨rfl, rfl, rfl⟩, rfl, by simp, qoc (t := (ju ts r).1) (by simp) rfl⟩, ⟨rfl, Le.refl _, Le.refl _, Le.refl _, Le.refl _, Le.refl _, Le.of_eq (congrArg (AV.own _ _ _) (by simp)), trivial⟩, qa⟩⟩, ⟨qa, qa⟩, ?_⟩; (first | omega | (dsimp only; omega) | skip))
  ·have hsv : sees ts r kVar = false := by assumption
   have hV : qbu ts ts.length [] (must ts (qe ts (must ts p qz)) sLc) = (l, r) := by
    rw [← hj]
    cases m with
    | zero => rfl
    | succ m => rw [qbu, if_neg (by rw [hsv]; decide)]
   have hw := h.inW (hs0.trans hS) (fun he => by have := (qhb (hS.err0 he)).2; have := hS.le; omega)
   have hso := qha ht (qiy ht) ts.length l _ hw.at_
   have hd := hso.deep
   have hi := (qcs hP.at_).2.2.1
   have hrd := hP.deep
   have hra := hP.at_.hi
   have e5 : qdo ts p = (.mk 3 [qae ts (must ts p qz)] [1] (tk ts p).pos (jk ts (sF ts) ts.length l (inP ts r)).1, outP (jk ts (sF ts) ts.length l (inP ts r)).2) := by
    unfold qdo
    simp only
    rw [if_neg (by rw [he]; decide), hV]
   rw [e5]
   ((conv => whnf); refine zT 600 [0] (qlx hP.at_ (by omega)) qa ?_)
   ((conv => whnf); refine zT 600 [0, 2, 4] (jbr ht (qiy ht) (jbn ht (by have := h.at_.lo; have := h.at_.hi; omega)) (fun q hq => s_rd ht hq) hw 3 (tk ts p).pos [qae ts (must ts p qz)] [1] l (by omega)) (⟨SoLe.refl _, ⟨rfl, Le.refl _, Le.refl _, Le.refl _, Le.refl _, Le.refl _, Le.refl _, trivial⟩, SoLe.refl _, trivial⟩) ?_)
   (repeat' ((conv => whnf); first | refine Ob.auto ?_ | fail))
   (refine ⟨Le.agg ⟨Le.refl _, ?_, ?_, Le.refl _, Le.refl _, ?_, trivial⟩, qa⟩ <;> first | exact Le.nils _ _ | exact Le.refl _ | exact jn rfl | exact jv rfl | exact qah rfl | exact qaf rfl rfl | exact qag rfl rfl | exact qai rfl rfl | exact qaj rfl rfl rfl | exact qak (fun _ _ => rfl))
end
section
variable {ts : List Lx.Tok} {p q : Ps} {n : Nat}
theorem jok {f : Nat → List AV} {a b c d : Int} (h : f 0 = [iv a]) (h' : f 1 = [iv b]) (h'' : f 2 = [iv c]) (h''' : f 3 = [iv d]) : Le (.slc 1 4 f) (ints [a, b, c, d]) := Le.slc rfl (fun i hi => by
 rcases (by omega : i = 0 ∨ i = 1 ∨ i = 2 ∨ i = 3) with rfl | rfl | rfl | rfl
 ·exact h
 ·exact h'
 ·exact h''
 ·exact h''')
theorem jol {l : List Tr} {t : Tr} {g : Nat → List AV} (hg : g 0 = t.cells) : ∀ j, j < l.length + 1 →
  LeL (appF l.length (qcd l) 1 g j) (qcd (l ++ [t]) j) := by
 intro j hj
 refine LeL.of_eq ?_
 have e : qcd (l ++ [t]) j = ((l ++ [t]).getD j Tr.none).cells := Tr.cellsL_get _ _ (by simp; omega)
 rw [e, qip]
 by_cases h : j < l.length
 ·rw [if_pos h, appF, if_pos h]
  exact Tr.cellsL_get _ _ h
 ·obtain rfl : j = l.length := by omega
  rw [if_neg (by omega), if_pos rfl, appF, if_neg (by omega), if_pos (by omega), Nat.sub_self]
  exact hg
theorem jom (ht : ToksOk ts) (h : Pre ts n p) : RdT ts 96 (itemF ts) p := by
 have h2 := ht.len
 refine zM {} 600 Tryz.func96 (fun c0 rdb mpb => ?_)
 (repeat' ((conv => whnf); first | refine zE 600 (qki h.at_ _) ?_ | fail))
 (repeat' ((conv => whnf); first | refine zE 600 (qfd h.at_ _) ?_ | (apply zB <;> intro hb <;> (try simp [-zd] at hb) <;> try (exfalso; omega))))
 ·have hv : sees ts p kVar = true := by assumption
  have e5 : itemF ts p = ju ts p := if_pos hv
  rw [e5]
  ((conv => whnf); refine zT 600 [0] (qvd ht h) qa ?_)
  (repeat' ((conv => whnf); first | refine Ob.auto ?_ | fail))
  exact ⟨Le.refl _, qa⟩
 ·have hv : sees ts p kVar = false := by assumption
  have hp : sees ts p qz = true := by assumption
  have e5 : itemF ts p = qdo ts p := (if_neg (by rw [hv]; decide)).trans (if_pos hp)
  rw [e5]
  ((conv => whnf); refine zT 600 [0] (joj ht h) qa ?_)
  (repeat' ((conv => whnf); first | refine Ob.auto ?_ | fail))
  exact ⟨Le.refl _, qa⟩
 have hc0 : ¬ (sees ts p kVar = true) := by simp_all
 have hc1 : ¬ (sees ts p qz = true) := by simp_all
 ((conv => whnf); refine zT 600 [0] (qav ht h.at_ qnm) qa ?_)
 cases hkC : sees ts p qnm with
 | true =>
  have tkC : took ts p qnm = adv p := if_pos hkC
  have h1 : Pre ts n (adv p) := h.step (qh ht h.at_ hkC)
  rw [tkC]
  (repeat' ((conv => whnf); first | (apply zB <;> intro hb <;> (try simp [-zd] at hb) <;> try (exfalso; omega))))
  have h2' := h1.step (qaq ht h1.at_)
  have h3 := h2'.step (ql ht h2'.at_ sLb)
  have h4 := h3.step (qbm ht h3.at_)
  have h5 := h4.step (ql ht h4.at_ sRb)
  have h6 := h5.step (ql ht h5.at_ kOf)
  have h7 := h6.step (qbm ht h6.at_)
  have h8 := h7.step (qhu ht h7.at_ qhs)
  have h9 := h8.step (qhu ht h8.at_ qiv)
  have e5 : itemF ts p = (.mk 1 [qae ts (adv p)] [numN ts (must ts (qe ts (adv p)) sLb), numN ts (must ts (must ts (numP ts (must ts (qe ts (adv p)) sLb)) sRb) kOf), qgz ts (numP ts (must ts (must ts (numP ts (must ts (qe ts (adv p)) sLb)) sRb) kOf)) qhs, qgz ts (took ts (numP ts (must ts (must ts (numP ts (must ts (qe ts (adv p)) sLb)) sRb) kOf)) qhs) qiv] (tk ts p).pos [], must ts (took ts (took ts (numP ts (must ts (must ts (numP ts (must ts (qe ts (adv p)) sLb)) sRb) kOf)) qhs) qiv) qt) := ((if_neg hc0).trans (if_neg hc1)).trans (if_pos hkC)
  rw [e5]
  (repeat' ((conv => whnf); first | (refine qbd (fun _ => rfl) (by kernel_rfl) 600 ?_) | fail))
  ((conv => whnf); refine CallY.trip [0] (qhv ht h1.at_) (by kernel_rfl) leA qa (by exact qb rfl) (by exact qb rfl) ?_)
  (repeat' ((conv => whnf); first | refine Ob.auto ?_ | fail))
  ((conv => whnf); refine AltG.far 9 [2] (by kernel_rfl) farA (EndG.go ?_))
  ((conv => whnf); refine zT 600 [0] (qay ht h2'.at_ sLb) qa ?_)
  (repeat' ((conv => whnf); first | (refine qbd (fun _ => rfl) (by kernel_rfl) 600 ?_) | fail))
  ((conv => whnf); refine CallY.trip [0] (qkh ht h3.at_) (by kernel_rfl) leA qa (by exact qb rfl) (by exact qb rfl) ?_)
  (repeat' ((conv => whnf); first | refine Ob.auto ?_ | fail))
  ((conv => whnf); refine AltG.far 9 [2] (by kernel_rfl) farA (EndG.go ?_))
  ((conv => whnf); refine zT 600 [0] (qay ht h4.at_ sRb) qa ?_)
  ((conv => whnf); refine zT 600 [0] (qay ht h5.at_ kOf) qa ?_)
  (repeat' ((conv => whnf); first | (refine qbd (fun _ => rfl) (by kernel_rfl) 600 ?_) | fail))
  ((conv => whnf); refine CallY.trip [0] (qkh ht h6.at_) (by kernel_rfl) leA qa (by exact qb rfl) (by exact qb rfl) ?_)
  (repeat' ((conv => whnf); first | refine Ob.auto ?_ | fail))
  ((conv => whnf); refine AltG.far 9 [2] (by kernel_rfl) farA (EndG.go ?_))
  (repeat' ((conv => whnf); first | (refine qbd (fun _ => rfl) (by kernel_rfl) 600 ?_) | fail))
  ((conv => whnf); refine CallY.trip [0] (qvb ht h7.at_ qhs) (by kernel_rfl) leA qa (by exact qb rfl) (by exact qb rfl) ?_)
  (repeat' ((conv => whnf); first | refine Ob.auto ?_ | fail))
  ((conv => whnf); refine AltG.far 9 [2] (by kernel_rfl) farA (EndG.go ?_))
  (repeat' ((conv => whnf); first | (refine qbd (fun _ => rfl) (by kernel_rfl) 600 ?_) | fail))
  ((conv => whnf); refine CallY.trip [0] (qvb ht h8.at_ qiv) (by kernel_rfl) leA qa (by exact qb rfl) (by exact qb rfl) ?_)
  (repeat' ((conv => whnf); first | refine Ob.auto ?_ | fail))
  ((conv => whnf); refine AltG.far 9 [2] (by kernel_rfl) farA (EndG.go ?_))
  ((conv => whnf); refine zT 600 [0] (qay ht h9.at_ qt) qa ?_)
  (repeat' ((conv => whnf); first | refine Ob.auto ?_ | fail))
  refine ⟨Le.agg ⟨Le.refl _, jv rfl, jok rfl rfl rfl rfl, Le.refl _, Le.refl _, Le.nils _ _, trivial⟩, qa⟩
 | false =>
  have tkC : took ts p qnm = p := if_neg (by rw [hkC]; decide)
  rw [tkC]
  (repeat' ((conv => whnf); first | (apply zB <;> intro hb <;> (try simp [-zd] at hb) <;> try (exfalso; omega))))
  ((conv => whnf); refine zT 600 [0] (qav ht h.at_ qnn) qa ?_)
  cases hkS : sees ts p qnn with
  | true =>
   have tkS : took ts p qnn = adv p := if_pos hkS
   have h1 : Pre ts n (adv p) := h.step (qh ht h.at_ hkS)
   rw [tkS]
   (repeat' ((conv => whnf); first | (apply zB <;> intro hb <;> (try simp [-zd] at hb) <;> try (exfalso; omega))))
   have e5 : itemF ts p = (.mk 4 [] [] (tk ts p).pos [(eF ts (adv p)).1], must ts (eF ts (adv p)).2 qt) := (((if_neg hc0).trans (if_neg hc1)).trans (if_neg (by rw [hkC]; decide))).trans (if_pos hkS)
   rw [e5]
   have h2' := h1.step (qbh ht _ h1.at_)
   ((conv => whnf); refine qax (fun _ => rfl) (by kernel_rfl) 600 [.turn [0] [.ptr 0 0] [pso ts (adv p)] (eF ts (adv p)).1.av [(0, pso ts (eF ts (adv p)).2)]] (by kernel_rfl) ?_)
   (repeat' ((conv => whnf); first | refine Ob.auto ?_ | refine Ob.intro ?_ ?_ | fail))
   ·exact ⟨e_rd ht h1.full, by kernel_rfl, leA, qa, by exact qb rfl, by exact qb rfl⟩
   ((conv => whnf); refine zT 600 [0] (qay ht h2'.at_ qt) qa ?_)
   (repeat' ((conv => whnf); first | refine Ob.auto ?_ | fail))
   (refine ⟨Le.agg ⟨Le.refl _, ?_, ?_, Le.refl _, Le.refl _, ?_, trivial⟩, qa⟩ <;> first | exact Le.nils _ _ | exact Le.refl _ | exact jn rfl | exact jv rfl | exact qah rfl | exact qaf rfl rfl | exact qag rfl rfl | exact qai rfl rfl | exact qaj rfl rfl rfl | exact qak (fun _ _ => rfl))
  | false =>
   have tkS : took ts p qnn = p := if_neg (by rw [hkS]; decide)
   rw [tkS]
   have e5 : itemF ts p = (.mk 5 [] [] (tk ts p).pos [], must ts (must ts p qlt) qt) := (((if_neg hc0).trans (if_neg hc1)).trans (if_neg (by rw [hkC]; decide))).trans (if_neg (by rw [hkS]; decide))
   rw [e5]
   have h1 : Pre ts n (must ts p qlt) := h.step (ql ht h.at_ _)
   (repeat' ((conv => whnf); first | (apply zB <;> intro hb <;> (try simp [-zd] at hb) <;> try (exfalso; omega))))
   ((conv => whnf); refine zT 600 [0] (qay ht h.at_ qlt) qa ?_)
   ((conv => whnf); refine zT 600 [0] (qay ht h1.at_ qt) qa ?_)
   (repeat' ((conv => whnf); first | refine Ob.auto ?_ | fail))
   (refine ⟨Le.agg ⟨Le.refl _, ?_, ?_, Le.refl _, Le.refl _, ?_, trivial⟩, qa⟩ <;> first | exact Le.nils _ _ | exact Le.refl _ | exact jn rfl | exact jv rfl | exact qah rfl | exact qaf rfl rfl | exact qag rfl rfl | exact qai rfl rfl | exact qaj rfl rfl rfl | exact qak (fun _ _ => rfl))
theorem jon (ht : ToksOk ts) (h : Pre ts n p) : RdT ts 65 (qcr ts) p := by
 have h2 := ht.len
 refine zM {} 600 Tryz.func65 (fun c0 rdb mpb => ?_)
 (repeat' ((conv => whnf); first | refine zE 600 (qki h.at_ _) ?_ | fail))
 ((conv => whnf); refine qqt [0, 1, 2] 2 rfl frzA ?_)
 (conv => whnf)
 refine qcq 2 5 106 6 rfl rfl ?_
 ((conv => whnf); refine qj (fun _ => rfl) 600 1 (fun _ : Nat × List Tr × Ps => []) (fun g => [(3, .row [] 106 6 0 g.2.1.length (qcd g.2.1)), (2, .box 106 [iv 0, .nils, .nils, .nils, iv (tk ts p).pos, .own 3 0 0 g.2.1.length]), (0, pso ts g.2.2)]) (fun g => Pre ts n g.2.2 ∧ qdp ts g.1 g.2.1 g.2.2 = qdp ts ts.length [] p ∧ (g.2.2.err = 0 → (ts.length : Int) - g.2.2.at_ ≤ g.1) ∧ g.2.1.length + g.1 ≤ ts.length) (fun g => g.1) ((ts.length, [], p)) (⟨h, rfl, by have := h.at_.lo; simp only; omega, by simp⟩) qa ⟨⟨⟨rfl, rfl, rfl⟩, rfl, rfl, fun j hj => absurd hj (Nat.not_lt_zero j)⟩, ⟨rfl, Le.refl _, Le.refl _, Le.refl _, Le.refl _, Le.refl _, Le.refl _, trivial⟩, SoLe.refl _, trivial⟩ (fun _ => rfl) (by kernel_rfl) ?_; (conv => whnf))
 rintro ⟨m, l, r⟩ ⟨hP, hj, hk, hl⟩
 simp only at hP hj hk hl
 (repeat' ((conv => whnf); first | refine Ob.auto ?_ | refine zE 600 (qfx) ?_ | refine zF 600 (fun hg => qkg hP.at_) ?_ | (apply zB <;> intro hb <;> (try simp [-zd] at hb) <;> try (exfalso; omega))))
 ·obtain ⟨he', hk3⟩ := hb
  have hQ := hP
  have hm : 1 ≤ m := by have := hk he'; have := hP.at_.hi; omega
  obtain ⟨m, rfl⟩ : ∃ m', m = m' + 1 := ⟨m - 1, by omega⟩
  rw [qdp, if_pos ⟨he', hk3⟩] at hj
  dsimp only
  ((conv => whnf); refine qax (fun _ => rfl) (by kernel_rfl) 600 [.turn [0] [.ptr 0 0] [pso ts r] (itemF ts r).1.av [(0, pso ts (itemF ts r).2)]] (by kernel_rfl) ?_)
  (repeat' ((conv => whnf); first | refine Ob.auto ?_ | refine Ob.intro ?_ ?_ | fail))
  ·exact ⟨jom ht hP, by kernel_rfl, leA, qa, by exact qb rfl, by exact qb rfl⟩
  have hst := quw ht r hP.at_
  have hk' : (itemF ts r).2.err = 0 → (ts.length : Int) - (itemF ts r).2.at_ ≤ m := fun h => by have := jbo ht r hP.at_ h; have := hk he'; omega
  have hlen : l.length + 1 = (l ++ [(itemF ts r).1]).length := by rw [List.length_append]; rfl
  ((conv => whnf); refine ⟨(m, l ++ [(itemF ts r).1], (itemF ts r).2), ⟨hP.step hst, hj, hk', by simp; omega⟩, ⟨qa, ⟨⟨⟨rfl, rfl, rfl⟩, rfl, hlen, jol (t := (itemF ts r).1) rfl⟩, ⟨rfl, Le.refl _, Le.refl _, Le.refl _, Le.refl _, Le.refl _, Le.of_eq (congrArg (AV.own _ _ _) hlen), trivial⟩, qa⟩⟩, ⟨qa, qa⟩, ?_⟩; (first | omega | (dsimp only; omega) | skip))
 ·have hn : ¬ (r.err = 0 ∧ (tk ts r).kind ≠ 3) := fun h => h.2 (hb h.1)
  have e2 : qdp ts ts.length [] p = (l, r) := by
   rw [← hj]
   cases m with
   | zero => rfl
   | succ m => rw [qdp, if_neg hn]
  have e5 : qcr ts p = (.mk 0 [] [] (tk ts p).pos l, r) := by unfold qcr; rw [e2]
  rw [e5]
  (refine ⟨Le.agg ⟨Le.refl _, ?_, ?_, Le.refl _, Le.refl _, ?_, trivial⟩, qa⟩ <;> first | exact Le.nils _ _ | exact Le.refl _ | exact jn rfl | exact jv rfl | exact qah rfl | exact qaf rfl rfl | exact qag rfl rfl | exact qai rfl rfl | exact qaj rfl rfl rfl | exact qak (fun _ _ => rfl))
end
end Go.Proofs.YtdoaagphhjggbaaGreat
end
