/- Contracts of the document's parser: items. -/
import Derived.Test.YtdoaagphhjggbaaGreatDoorQPa7
import Derived.Test.YtdoaagphhjggbaaGreatDoorQ2
namespace Go.Proofs.YtdoaagphhjggbaaGreatDoor
open List renaming getD_eq_getElem?_getD → zd
open Go Go.Sx Go.RowKit Go.St Pa
set_option maxRecDepth 100000
set_option maxHeartbeats 8000000
section
variable {ts : List Lx.Tok} {p q : Ps} {n : Nat}
theorem jlw (ht : ToksOk ts) (h : AtOk ts p) : 0 ≤ numN ts p ∧ numN ts p ≤ 999999 := by
 unfold numN
 split
 ·rename_i hn
  unfold qfh at hn
  simp only [Bool.and_eq_true, beq_iff_eq] at hn
  have h1 := ht.num _ (jaa h) hn.1
  have h2 := qsy h1.2 (tk ts p).s.length (Nat.le_refl _)
  rw [List.take_length] at h2
  have h3 : (10 : Int) ^ (tk ts p).s.length ≤ 10 ^ 6 := by exact_mod_cast Nat.pow_le_pow_right (show 0 < 10 by decide) h1.1
  omega
 ·omega
theorem qth (ht : ToksOk ts) (h : Pre ts n p) : RdT ts 70 (jk ts) p := by
 have h2 := ht.len
 have s1 := qi ht h.at_ kVar
 have h1 := h.step s1
 have s3 := qad ht h1.at_
 have h3 := h1.step s3
 have h4 := h3.step (qi ht h3.at_ kOf)
 have h5 := h4.step (qaw ht h4.at_)
 refine zM {} 600 Tryz.func70 (fun c0 rdb mpb => ?_)
 (repeat' ((conv => whnf); first | refine zE 600 (qio h.at_ _) ?_ | fail))
 ((conv => whnf); refine zT 600 [0] (qaj ht h.at_ kVar) qa ?_)
 (repeat' ((conv => whnf); first | (refine qap (fun _ => rfl) (by kernel_rfl) 600 ?_) | fail))
 ((conv => whnf); refine CallY.trip [0] (qgm ht h1.at_) (by kernel_rfl) leA qa (by exact qb rfl) (by exact qb rfl) ?_)
 (repeat' ((conv => whnf); first | refine Ob.auto ?_ | fail))
 ((conv => whnf); refine AltG.far 9 [2] (by kernel_rfl) farA (EndG.go ?_))
 ((conv => whnf); refine zT 600 [0] (qaj ht h3.at_ kOf) qa ?_)
 ((conv => whnf); refine zT 600 [0] (qin ht h4.at_) qa ?_)
 ((conv => whnf); refine zT 600 [0] (qag ht h5.at_ sEq) qa ?_)
 cases he : sees ts (numP ts (must ts (qd ts (must ts p kVar)) kOf)) sEq with
 | true =>
  have t1 : took ts (numP ts (must ts (qd ts (must ts p kVar)) kOf)) sEq = adv (numP ts (must ts (qd ts (must ts p kVar)) kOf)) := if_pos he
  have h6 := h5.step (qf ht h5.at_ he)
  rw [t1]
  (repeat' ((conv => whnf); first | (apply zB <;> intro hb <;> (try simp [-zd] at hb) <;> try (exfalso; omega))))
  ((conv => whnf); refine zT 600 [0] (qag ht h6.at_ qdw) qa ?_)
  cases hm : sees ts (adv (numP ts (must ts (qd ts (must ts p kVar)) kOf))) qdw with
  | true =>
   have t2 : took ts (adv (numP ts (must ts (qd ts (must ts p kVar)) kOf))) qdw = adv (adv (numP ts (must ts (qd ts (must ts p kVar)) kOf))) := if_pos hm
   have h7 := h6.step (qf ht h6.at_ hm)
   have h8 := h7.step (qaw ht h7.at_)
   have hb := jlw ht h7.at_
   have e5 : jk ts p = (.mk 2 [jp ts (must ts p kVar)] [numN ts (must ts (qd ts (must ts p kVar)) kOf), 0 - numN ts (adv (adv (numP ts (must ts (qd ts (must ts p kVar)) kOf))))] (tk ts p).pos [], must ts (numP ts (adv (adv (numP ts (must ts (qd ts (must ts p kVar)) kOf))))) ql) := by
    unfold jk; simp only; rw [if_pos he, if_pos hm]
   rw [t2, e5]
   (repeat' ((conv => whnf); first | (apply zB <;> intro hb <;> (try simp [-zd] at hb) <;> try (exfalso; omega))))
   ((conv => whnf); refine zT 600 [0] (qin ht h7.at_) qa ?_)
   (repeat' ((conv => whnf); first | refine Ob.auto ?_ | fail))
   ((conv => whnf); refine zT 600 [0] (qaj ht h8.at_ ql) qa ?_)
   (repeat' ((conv => whnf); first | refine Ob.auto ?_ | fail))
   (refine ⟨Le.agg ⟨Le.refl _, ?_, ?_, Le.refl _, Le.refl _, ?_, trivial⟩, qa⟩ <;> first | exact Le.nils _ _ | exact Le.refl _ | exact je rfl | exact jl rfl | exact ju rfl | exact js rfl rfl | exact jt rfl rfl | exact jv rfl rfl | exact jx rfl rfl rfl | exact jy (fun _ _ => rfl))
  | false =>
   have t2 : took ts (adv (numP ts (must ts (qd ts (must ts p kVar)) kOf))) qdw = adv (numP ts (must ts (qd ts (must ts p kVar)) kOf)) := if_neg (by rw [hm]; decide)
   have h8 := h6.step (qaw ht h6.at_)
   have e5 : jk ts p = (.mk 2 [jp ts (must ts p kVar)] [numN ts (must ts (qd ts (must ts p kVar)) kOf), numN ts (adv (numP ts (must ts (qd ts (must ts p kVar)) kOf)))] (tk ts p).pos [], must ts (numP ts (adv (numP ts (must ts (qd ts (must ts p kVar)) kOf)))) ql) := by
    unfold jk; simp only; rw [if_pos he, if_neg (by rw [hm]; decide)]
   rw [t2, e5]
   (repeat' ((conv => whnf); first | (apply zB <;> intro hb <;> (try simp [-zd] at hb) <;> try (exfalso; omega))))
   ((conv => whnf); refine zT 600 [0] (qin ht h6.at_) qa ?_)
   ((conv => whnf); refine zT 600 [0] (qaj ht h8.at_ ql) qa ?_)
   (repeat' ((conv => whnf); first | refine Ob.auto ?_ | fail))
   (refine ⟨Le.agg ⟨Le.refl _, ?_, ?_, Le.refl _, Le.refl _, ?_, trivial⟩, qa⟩ <;> first | exact Le.nils _ _ | exact Le.refl _ | exact je rfl | exact jl rfl | exact ju rfl | exact js rfl rfl | exact jt rfl rfl | exact jv rfl rfl | exact jx rfl rfl rfl | exact jy (fun _ _ => rfl))
 | false =>
  have t1 : took ts (numP ts (must ts (qd ts (must ts p kVar)) kOf)) sEq = (numP ts (must ts (qd ts (must ts p kVar)) kOf)) := if_neg (by rw [he]; decide)
  have e5 : jk ts p = (.mk 2 [jp ts (must ts p kVar)] [numN ts (must ts (qd ts (must ts p kVar)) kOf), 0] (tk ts p).pos [], must ts (numP ts (must ts (qd ts (must ts p kVar)) kOf)) ql) := by
   unfold jk; simp only; rw [if_neg (by rw [he]; decide)]
  rw [t1, e5]
  (repeat' ((conv => whnf); first | (apply zB <;> intro hb <;> (try simp [-zd] at hb) <;> try (exfalso; omega))))
  ((conv => whnf); refine zT 600 [0] (qaj ht h5.at_ ql) qa ?_)
  (repeat' ((conv => whnf); first | refine Ob.auto ?_ | fail))
  (refine ⟨Le.agg ⟨Le.refl _, ?_, ?_, Le.refl _, Le.refl _, ?_, trivial⟩, qa⟩ <;> first | exact Le.nils _ _ | exact Le.refl _ | exact je rfl | exact jl rfl | exact ju rfl | exact js rfl rfl | exact jt rfl rfl | exact jv rfl rfl | exact jx rfl rfl rfl | exact jy (fun _ _ => rfl))
theorem jlx (ht : ToksOk ts) (h : Pre ts n p) : RdT ts 71 (qct ts) p := by
 have h2 := ht.len
 have hs0 := qi ht h.at_ qr
 have h1 := h.step hs0
 have hs3 := qad ht h1.at_
 have h3 := h1.step hs3
 refine zM {} 600 Tryz.func71 (fun c0 rdb mpb => ?_)
 (repeat' ((conv => whnf); first | refine zE 600 (qio h.at_ _) ?_ | fail))
 ((conv => whnf); refine zT 600 [0] (qaj ht h.at_ qr) qa ?_)
 (repeat' ((conv => whnf); first | (refine qap (fun _ => rfl) (by kernel_rfl) 600 ?_) | fail))
 ((conv => whnf); refine CallY.trip [0] (qgm ht h1.at_) (by kernel_rfl) leA qa (by exact qb rfl) (by exact qb rfl) ?_)
 (repeat' ((conv => whnf); first | refine Ob.auto ?_ | fail))
 ((conv => whnf); refine AltG.far 9 [2] (by kernel_rfl) farA (EndG.go ?_))
 ((conv => whnf); refine zT 600 [0] (qag ht h3.at_ qem) qa ?_)
 cases he : sees ts (qd ts (must ts p qr)) qem with
 | true =>
  have t1 : took ts (qd ts (must ts p qr)) qem = adv (qd ts (must ts p qr)) := if_pos he
  have hs6 := hs3.trans (qf ht h3.at_ he)
  have hc := hs6.trans (qaw ht (hs6.ok h1.at_))
  rw [t1]
  (repeat' ((conv => whnf); first | (apply zB <;> intro hb <;> (try simp [-zd] at hb) <;> try (exfalso; omega))))
  ((conv => whnf); refine zT 600 [0] (qin ht (hs6.ok h1.at_)) qa ?_)
  have hsr := hc.trans (qi ht (hc.ok h1.at_) sLc)
  have hr := h1.step hsr
  ((conv => whnf); refine zT 600 [0] (qaj ht (hc.ok h1.at_) sLc) qa ?_)
  ((conv => whnf); refine qoo [0, 1, 2] 2 rfl frzA ?_)
  (conv => whnf)
  refine qda 2 5 74 6 rfl rfl ?_
  ((conv => whnf); refine qo (fun _ => rfl) 600 1 (fun _ : Nat × List Tr × Ps => []) (fun g => [(4, .row [] 74 6 0 g.2.1.length (qbm g.2.1)), (2, .box 74 [iv 3, strs [jp ts (must ts p qr)], ints [numN ts (adv (qd ts (must ts p qr)))], .nils, iv (tk ts p).pos, .own 4 0 0 g.2.1.length]), (0, pso ts g.2.2)]) (fun g => Step ts (must ts p qr) g.2.2 ∧ qbc ts g.1 g.2.1 g.2.2 = qbc ts ts.length [] (must ts (numP ts (adv (qd ts (must ts p qr)))) sLc) ∧ (ts.length : Int) - g.2.2.at_ ≤ g.1 ∧ g.2.1.length + g.1 ≤ ts.length) (fun g => g.1) ((ts.length, [], (must ts (numP ts (adv (qd ts (must ts p qr)))) sLc))) (⟨hsr, rfl, by have := hr.at_.lo; simp only; omega, by simp⟩) qa ⟨⟨⟨rfl, rfl, rfl⟩, rfl, rfl, fun j hj => absurd hj (Nat.not_lt_zero j)⟩, ⟨rfl, Le.refl _, jl rfl, je rfl, Le.refl _, Le.refl _, Le.refl _, trivial⟩, SoLe.refl _, trivial⟩ (fun _ => rfl) (by kernel_rfl) ?_; (conv => whnf))
  rintro ⟨m, l, r⟩ ⟨hS, hj, hk, hl⟩
  simp only at hS hj hk hl
  have hP := h1.step hS
  (repeat' ((conv => whnf); first | refine zE 600 (qdx hP.at_ _) ?_ | (apply zB <;> intro hb <;> (try simp [-zd] at hb) <;> try (exfalso; omega))))
  ·have hsv : sees ts r kVar = true := by assumption
   have hm : 1 ≤ m := by have := hP.at_.hi; omega
   obtain ⟨m, rfl⟩ : ∃ m', m = m' + 1 := ⟨m - 1, by omega⟩
   rw [qbc, if_pos hsv] at hj
   ((conv => whnf); refine qbk (fun _ => rfl) (by kernel_rfl) 600 [.turn [0] [.ptr 0 0] [pso ts r] (jk ts r).1.av [(0, pso ts (jk ts r).2)]] (by kernel_rfl) ?_)
   (repeat' ((conv => whnf); first | refine Ob.auto ?_ | refine Ob.intro ?_ ?_ | fail))
   ·exact ⟨qth ht hP, by kernel_rfl, leA, qa, by exact qb rfl, by exact qb rfl⟩
   have hst := qka ht _ hP.at_
   have hle := (jaj ht hP.at_).le
   have hle2 : (must ts r kVar).at_ = r.at_ + 1 := by rw [show must ts r kVar = adv r from if_pos hsv]; rfl
   ((conv => whnf); refine ⟨(m, l ++ [(jk ts r).1], (jk ts r).2), ⟨hS.trans hst, hj, by simp only; omega, by simp; omega⟩, ⟨qa, ⟨⟨⟨rfl, rfl, rfl⟩, rfl, by simp, qmm (t := (jk ts r).1) (by simp) rfl⟩, ⟨rfl, Le.refl _, Le.refl _, Le.refl _, Le.refl _, Le.refl _, Le.of_eq (congrArg (AV.own _ _ _) (by simp)), trivial⟩, qa⟩⟩, ⟨qa, qa⟩, ?_⟩; (first | omega | (dsimp only; omega) | skip))
  ·have hsv : sees ts r kVar = false := by assumption
   have hV : qbc ts ts.length [] (must ts (numP ts (adv (qd ts (must ts p qr)))) sLc) = (l, r) := by
    rw [← hj]
    cases m with
    | zero => rfl
    | succ m => rw [qbc, if_neg (by rw [hsv]; decide)]
   have hw := h.inW (hs0.trans hS) (fun he => by have := (qfl (hS.err0 he)).2; have := hS.le; omega)
   have hso := qfk ht (qhm ht) ts.length l _ hw.at_
   have hd := hso.deep
   have hi := (qbz hP.at_).2.2.1
   have hrd := hP.deep
   have hra := hP.at_.hi
   have e5 : qct ts p = (.mk 3 [jp ts (must ts p qr)] [numN ts (adv (qd ts (must ts p qr)))] (tk ts p).pos (jc ts (sF ts) ts.length l (inP ts r)).1, outP (jc ts (sF ts) ts.length l (inP ts r)).2) := by
    unfold qct
    simp only
    rw [if_pos he, hV]
   rw [e5]
   ((conv => whnf); refine zT 600 [0] (qkb hP.at_ (by omega)) qa ?_)
   ((conv => whnf); refine zT 600 [0, 2, 4] (jao ht (qhm ht) (jak ht (by have := h.at_.lo; have := h.at_.hi; omega)) (fun q hq => s_rd ht hq) hw 3 (tk ts p).pos [jp ts (must ts p qr)] [numN ts (adv (qd ts (must ts p qr)))] l (by omega)) (⟨SoLe.refl _, ⟨rfl, Le.refl _, Le.refl _, Le.refl _, Le.refl _, Le.refl _, Le.refl _, trivial⟩, SoLe.refl _, trivial⟩) ?_)
   (repeat' ((conv => whnf); first | refine Ob.auto ?_ | fail))
   (refine ⟨Le.agg ⟨Le.refl _, ?_, ?_, Le.refl _, Le.refl _, ?_, trivial⟩, qa⟩ <;> first | exact Le.nils _ _ | exact Le.refl _ | exact je rfl | exact jl rfl | exact ju rfl | exact js rfl rfl | exact jt rfl rfl | exact jv rfl rfl | exact jx rfl rfl rfl | exact jy (fun _ _ => rfl))
 | false =>
  have t1 : took ts (qd ts (must ts p qr)) qem = (qd ts (must ts p qr)) := if_neg (by rw [he]; decide)
  rw [t1]
  have hsr := hs3.trans (qi ht (hs3.ok h1.at_) sLc)
  have hr := h1.step hsr
  (repeat' ((conv => whnf); first | (apply zB <;> intro hb <;> (try simp [-zd] at hb) <;> try (exfalso; omega))))
  ((conv => whnf); refine zT 600 [0] (qaj ht (hs3.ok h1.at_) sLc) qa ?_)
  ((conv => whnf); refine qoo [0, 1, 2] 2 rfl frzA ?_)
  (conv => whnf)
  refine qda 2 5 74 6 rfl rfl ?_
  ((conv => whnf); refine qo (fun _ => rfl) 600 1 (fun _ : Nat × List Tr × Ps => []) (fun g => [(4, .row [] 74 6 0 g.2.1.length (qbm g.2.1)), (2, .box 74 [iv 3, strs [jp ts (must ts p qr)], ints [1], .nils, iv (tk ts p).pos, .own 4 0 0 g.2.1.length]), (0, pso ts g.2.2)]) (fun g => Step ts (must ts p qr) g.2.2 ∧ qbc ts g.1 g.2.1 g.2.2 = qbc ts ts.length [] (must ts (qd ts (must ts p qr)) sLc) ∧ (ts.length : Int) - g.2.2.at_ ≤ g.1 ∧ g.2.1.length + g.1 ≤ ts.length) (fun g => g.1) ((ts.length, [], (must ts (qd ts (must ts p qr)) sLc))) (⟨hsr, rfl, by have := hr.at_.lo; simp only; omega, by simp⟩) qa ⟨⟨⟨rfl, rfl, rfl⟩, rfl, rfl, fun j hj => absurd hj (Nat.not_lt_zero j)⟩, ⟨rfl, Le.refl _, jl rfl, je rfl, Le.refl _, Le.refl _, Le.refl _, trivial⟩, SoLe.refl _, trivial⟩ (fun _ => rfl) (by kernel_rfl) ?_; (conv => whnf))
  rintro ⟨m, l, r⟩ ⟨hS, hj, hk, hl⟩
  simp only at hS hj hk hl
  have hP := h1.step hS
  (repeat' ((conv => whnf); first | refine zE 600 (qdx hP.at_ _) ?_ | (apply zB <;> intro hb <;> (try simp [-zd] at hb) <;> try (exfalso; omega))))
  ·have hsv : sees ts r kVar = true := by assumption
   have hm : 1 ≤ m := by have := hP.at_.hi; omega
   obtain ⟨m, rfl⟩ : ∃ m', m = m' + 1 := ⟨m - 1, by omega⟩
   rw [qbc, if_pos hsv] at hj
   ((conv => whnf); refine qbk (fun _ => rfl) (by kernel_rfl) 600 [.turn [0] [.ptr 0 0] [pso ts r] (jk ts r).1.av [(0, pso ts (jk ts r).2)]] (by kernel_rfl) ?_)
   (repeat' ((conv => whnf); first | refine Ob.auto ?_ | refine Ob.intro ?_ ?_ | fail))
   ·exact ⟨qth ht hP, by kernel_rfl, leA, qa, by exact qb rfl, by exact qb rfl⟩
   have hst := qka ht _ hP.at_
   have hle := (jaj ht hP.at_).le
   have hle2 : (must ts r kVar).at_ = r.at_ + 1 := by rw [show must ts r kVar = adv r from if_pos hsv]; rfl
   ((conv => whnf); refine ⟨(m, l ++ [(jk ts r).1], (jk ts r).2), ⟨hS.trans hst, hj, by simp only; omega, by simp; omega⟩, ⟨qa, ⟨⟨⟨rfl, rfl, rfl⟩, rfl, by simp, qmm (t := (jk ts r).1) (by simp) rfl⟩, ⟨rfl, Le.refl _, Le.refl _, Le.refl _, Le.refl _, Le.refl _, Le.of_eq (congrArg (AV.own _ _ _) (by simp)), trivial⟩, qa⟩⟩, ⟨qa, qa⟩, ?_⟩; (first | omega | (dsimp only; omega) | skip))
  ·have hsv : sees ts r kVar = false := by assumption
   have hV : qbc ts ts.length [] (must ts (qd ts (must ts p qr)) sLc) = (l, r) := by
    rw [← hj]
    cases m with
    | zero => rfl
    | succ m => rw [qbc, if_neg (by rw [hsv]; decide)]
   have hw := h.inW (hs0.trans hS) (fun he => by have := (qfl (hS.err0 he)).2; have := hS.le; omega)
   have hso := qfk ht (qhm ht) ts.length l _ hw.at_
   have hd := hso.deep
   have hi := (qbz hP.at_).2.2.1
   have hrd := hP.deep
   have hra := hP.at_.hi
   have e5 : qct ts p = (.mk 3 [jp ts (must ts p qr)] [1] (tk ts p).pos (jc ts (sF ts) ts.length l (inP ts r)).1, outP (jc ts (sF ts) ts.length l (inP ts r)).2) := by
    unfold qct
    simp only
    rw [if_neg (by rw [he]; decide), hV]
   rw [e5]
   ((conv => whnf); refine zT 600 [0] (qkb hP.at_ (by omega)) qa ?_)
   ((conv => whnf); refine zT 600 [0, 2, 4] (jao ht (qhm ht) (jak ht (by have := h.at_.lo; have := h.at_.hi; omega)) (fun q hq => s_rd ht hq) hw 3 (tk ts p).pos [jp ts (must ts p qr)] [1] l (by omega)) (⟨SoLe.refl _, ⟨rfl, Le.refl _, Le.refl _, Le.refl _, Le.refl _, Le.refl _, Le.refl _, trivial⟩, SoLe.refl _, trivial⟩) ?_)
   (repeat' ((conv => whnf); first | refine Ob.auto ?_ | fail))
   (refine ⟨Le.agg ⟨Le.refl _, ?_, ?_, Le.refl _, Le.refl _, ?_, trivial⟩, qa⟩ <;> first | exact Le.nils _ _ | exact Le.refl _ | exact je rfl | exact jl rfl | exact ju rfl | exact js rfl rfl | exact jt rfl rfl | exact jv rfl rfl | exact jx rfl rfl rfl | exact jy (fun _ _ => rfl))
end
end Go.Proofs.YtdoaagphhjggbaaGreatDoor
