/- Contracts of the document's parser: items. -/
import Derived.Test.YtdoaagphhjggbaaQPa7
import Derived.Test.YtdoaagphhjggbaaQ2
namespace Go.Proofs.Ytdoaagphhjggbaa
open List renaming getD_eq_getElem?_getD → zd
open Go Go.Sx Go.RowKit Go.St Pa
set_option maxRecDepth 100000
set_option maxHeartbeats 8000000
section
variable {ts : List Lx.Tok} {p q : Ps} {n : Nat}
theorem jkq (ht : ToksOk ts) (h : AtOk ts p) : 0 ≤ numN ts p ∧ numN ts p ≤ 999999 := by
 unfold numN
 split
 ·rename_i hn
  unfold qfo at hn
  simp only [Bool.and_eq_true, beq_iff_eq] at hn
  have h1 := ht.num _ (qyo h) hn.1
  have h2 := qsl h1.2 (tk ts p).s.length (Nat.le_refl _)
  rw [List.take_length] at h2
  have h3 : (10 : Int) ^ (tk ts p).s.length ≤ 10 ^ 6 := by exact_mod_cast Nat.pow_le_pow_right (show 0 < 10 by decide) h1.1
  omega
 ·omega
theorem qsv (ht : ToksOk ts) (h : Pre ts n p) : RdT ts 91 (jl ts) p := by
 have h2 := ht.len
 have s1 := qi ht h.at_ kVar
 have h1 := h.step s1
 have s3 := qag ht h1.at_
 have h3 := h1.step s3
 have h4 := h3.step (qi ht h3.at_ kOf)
 have h5 := h4.step (qba ht h4.at_)
 refine zM {} 600 Try.func91 (fun c0 rdb mpb => ?_)
 (repeat' ((conv => whnf); first | refine zE 600 (qix h.at_ _) ?_ | fail))
 ((conv => whnf); refine zT 600 [0] (qan ht h.at_ kVar) qa ?_)
 (repeat' ((conv => whnf); first | (refine qas (fun _ => rfl) (by kernel_rfl) 600 ?_) | fail))
 ((conv => whnf); refine CallY.trip [0] (qgn ht h1.at_) (by kernel_rfl) leA qa (by exact qb rfl) (by exact qb rfl) ?_)
 (repeat' ((conv => whnf); first | refine Ob.auto ?_ | fail))
 ((conv => whnf); refine AltG.far 9 [2] (by kernel_rfl) farA (EndG.go ?_))
 ((conv => whnf); refine zT 600 [0] (qan ht h3.at_ kOf) qa ?_)
 ((conv => whnf); refine zT 600 [0] (qiw ht h4.at_) qa ?_)
 ((conv => whnf); refine zT 600 [0] (qak ht h5.at_ sEq) qa ?_)
 cases he : sees ts (numP ts (must ts (qe ts (must ts p kVar)) kOf)) sEq with
 | true =>
  have t1 : took ts (numP ts (must ts (qe ts (must ts p kVar)) kOf)) sEq = adv (numP ts (must ts (qe ts (must ts p kVar)) kOf)) := if_pos he
  have h6 := h5.step (qg ht h5.at_ he)
  rw [t1]
  (repeat' ((conv => whnf); first | (apply zB <;> intro hb <;> (try simp [-zd] at hb) <;> try (exfalso; omega))))
  ((conv => whnf); refine zT 600 [0] (qak ht h6.at_ qed) qa ?_)
  cases hm : sees ts (adv (numP ts (must ts (qe ts (must ts p kVar)) kOf))) qed with
  | true =>
   have t2 : took ts (adv (numP ts (must ts (qe ts (must ts p kVar)) kOf))) qed = adv (adv (numP ts (must ts (qe ts (must ts p kVar)) kOf))) := if_pos hm
   have h7 := h6.step (qg ht h6.at_ hm)
   have h8 := h7.step (qba ht h7.at_)
   have hb := jkq ht h7.at_
   have e5 : jl ts p = (.mk 2 [js ts (must ts p kVar)] [numN ts (must ts (qe ts (must ts p kVar)) kOf), 0 - numN ts (adv (adv (numP ts (must ts (qe ts (must ts p kVar)) kOf))))] (tk ts p).pos [], must ts (numP ts (adv (adv (numP ts (must ts (qe ts (must ts p kVar)) kOf))))) qm) := by
    unfold jl; simp only; rw [if_pos he, if_pos hm]
   rw [t2, e5]
   (repeat' ((conv => whnf); first | (apply zB <;> intro hb <;> (try simp [-zd] at hb) <;> try (exfalso; omega))))
   ((conv => whnf); refine zT 600 [0] (qiw ht h7.at_) qa ?_)
   (repeat' ((conv => whnf); first | refine Ob.auto ?_ | fail))
   ((conv => whnf); refine zT 600 [0] (qan ht h8.at_ qm) qa ?_)
   (repeat' ((conv => whnf); first | refine Ob.auto ?_ | fail))
   (refine ⟨Le.agg ⟨Le.refl _, ?_, ?_, Le.refl _, Le.refl _, ?_, trivial⟩, qa⟩ <;> first | exact Le.nils _ _ | exact Le.refl _ | exact jg rfl | exact jm rfl | exact jv rfl | exact jt rfl rfl | exact ju rfl rfl | exact jx rfl rfl | exact jy rfl rfl rfl | exact jz (fun _ _ => rfl))
  | false =>
   have t2 : took ts (adv (numP ts (must ts (qe ts (must ts p kVar)) kOf))) qed = adv (numP ts (must ts (qe ts (must ts p kVar)) kOf)) := if_neg (by rw [hm]; decide)
   have h8 := h6.step (qba ht h6.at_)
   have e5 : jl ts p = (.mk 2 [js ts (must ts p kVar)] [numN ts (must ts (qe ts (must ts p kVar)) kOf), numN ts (adv (numP ts (must ts (qe ts (must ts p kVar)) kOf)))] (tk ts p).pos [], must ts (numP ts (adv (numP ts (must ts (qe ts (must ts p kVar)) kOf)))) qm) := by
    unfold jl; simp only; rw [if_pos he, if_neg (by rw [hm]; decide)]
   rw [t2, e5]
   (repeat' ((conv => whnf); first | (apply zB <;> intro hb <;> (try simp [-zd] at hb) <;> try (exfalso; omega))))
   ((conv => whnf); refine zT 600 [0] (qiw ht h6.at_) qa ?_)
   ((conv => whnf); refine zT 600 [0] (qan ht h8.at_ qm) qa ?_)
   (repeat' ((conv => whnf); first | refine Ob.auto ?_ | fail))
   (refine ⟨Le.agg ⟨Le.refl _, ?_, ?_, Le.refl _, Le.refl _, ?_, trivial⟩, qa⟩ <;> first | exact Le.nils _ _ | exact Le.refl _ | exact jg rfl | exact jm rfl | exact jv rfl | exact jt rfl rfl | exact ju rfl rfl | exact jx rfl rfl | exact jy rfl rfl rfl | exact jz (fun _ _ => rfl))
 | false =>
  have t1 : took ts (numP ts (must ts (qe ts (must ts p kVar)) kOf)) sEq = (numP ts (must ts (qe ts (must ts p kVar)) kOf)) := if_neg (by rw [he]; decide)
  have e5 : jl ts p = (.mk 2 [js ts (must ts p kVar)] [numN ts (must ts (qe ts (must ts p kVar)) kOf), 0] (tk ts p).pos [], must ts (numP ts (must ts (qe ts (must ts p kVar)) kOf)) qm) := by
   unfold jl; simp only; rw [if_neg (by rw [he]; decide)]
  rw [t1, e5]
  (repeat' ((conv => whnf); first | (apply zB <;> intro hb <;> (try simp [-zd] at hb) <;> try (exfalso; omega))))
  ((conv => whnf); refine zT 600 [0] (qan ht h5.at_ qm) qa ?_)
  (repeat' ((conv => whnf); first | refine Ob.auto ?_ | fail))
  (refine ⟨Le.agg ⟨Le.refl _, ?_, ?_, Le.refl _, Le.refl _, ?_, trivial⟩, qa⟩ <;> first | exact Le.nils _ _ | exact Le.refl _ | exact jg rfl | exact jm rfl | exact jv rfl | exact jt rfl rfl | exact ju rfl rfl | exact jx rfl rfl | exact jy rfl rfl rfl | exact jz (fun _ _ => rfl))
theorem jkr (ht : ToksOk ts) (h : Pre ts n p) : RdT ts 92 (qcw ts) p := by
 have h2 := ht.len
 have hs0 := qi ht h.at_ qv
 have h1 := h.step hs0
 have hs3 := qag ht h1.at_
 have h3 := h1.step hs3
 refine zM {} 600 Try.func92 (fun c0 rdb mpb => ?_)
 (repeat' ((conv => whnf); first | refine zE 600 (qix h.at_ _) ?_ | fail))
 ((conv => whnf); refine zT 600 [0] (qan ht h.at_ qv) qa ?_)
 (repeat' ((conv => whnf); first | (refine qas (fun _ => rfl) (by kernel_rfl) 600 ?_) | fail))
 ((conv => whnf); refine CallY.trip [0] (qgn ht h1.at_) (by kernel_rfl) leA qa (by exact qb rfl) (by exact qb rfl) ?_)
 (repeat' ((conv => whnf); first | refine Ob.auto ?_ | fail))
 ((conv => whnf); refine AltG.far 9 [2] (by kernel_rfl) farA (EndG.go ?_))
 ((conv => whnf); refine zT 600 [0] (qak ht h3.at_ qer) qa ?_)
 cases he : sees ts (qe ts (must ts p qv)) qer with
 | true =>
  have t1 : took ts (qe ts (must ts p qv)) qer = adv (qe ts (must ts p qv)) := if_pos he
  have hs6 := hs3.trans (qg ht h3.at_ he)
  have hc := hs6.trans (qba ht (hs6.ok h1.at_))
  rw [t1]
  (repeat' ((conv => whnf); first | (apply zB <;> intro hb <;> (try simp [-zd] at hb) <;> try (exfalso; omega))))
  ((conv => whnf); refine zT 600 [0] (qiw ht (hs6.ok h1.at_)) qa ?_)
  have hsr := hc.trans (qi ht (hc.ok h1.at_) sLc)
  have hr := h1.step hsr
  ((conv => whnf); refine zT 600 [0] (qan ht (hc.ok h1.at_) sLc) qa ?_)
  ((conv => whnf); refine qkb [0, 1, 2] 2 rfl frzA ?_)
  (conv => whnf)
  refine qca 2 5 89 6 rfl rfl ?_
  ((conv => whnf); refine qx (fun _ => rfl) 600 1 (fun _ : Nat × List Tr × Ps => []) (fun g => [(4, .row [] 89 6 0 g.2.1.length (qbq g.2.1)), (2, .box 89 [iv 3, strs [js ts (must ts p qv)], ints [numN ts (adv (qe ts (must ts p qv)))], .nils, iv (tk ts p).pos, .own 4 0 0 g.2.1.length]), (0, pso ts g.2.2)]) (fun g => Step ts (must ts p qv) g.2.2 ∧ qbi ts g.1 g.2.1 g.2.2 = qbi ts ts.length [] (must ts (numP ts (adv (qe ts (must ts p qv)))) sLc) ∧ (ts.length : Int) - g.2.2.at_ ≤ g.1 ∧ g.2.1.length + g.1 ≤ ts.length) (fun g => g.1) ((ts.length, [], (must ts (numP ts (adv (qe ts (must ts p qv)))) sLc))) (⟨hsr, rfl, by have := hr.at_.lo; simp only; omega, by simp⟩) qa ⟨⟨⟨rfl, rfl, rfl⟩, rfl, rfl, fun j hj => absurd hj (Nat.not_lt_zero j)⟩, ⟨rfl, Le.refl _, jm rfl, jg rfl, Le.refl _, Le.refl _, Le.refl _, trivial⟩, SoLe.refl _, trivial⟩ (fun _ => rfl) (by kernel_rfl) ?_; (conv => whnf))
  rintro ⟨m, l, r⟩ ⟨hS, hj, hk, hl⟩
  simp only at hS hj hk hl
  have hP := h1.step hS
  (repeat' ((conv => whnf); first | refine zE 600 (qee hP.at_ _) ?_ | (apply zB <;> intro hb <;> (try simp [-zd] at hb) <;> try (exfalso; omega))))
  ·have hsv : sees ts r kVar = true := by assumption
   have hm : 1 ≤ m := by have := hP.at_.hi; omega
   obtain ⟨m, rfl⟩ : ∃ m', m = m' + 1 := ⟨m - 1, by omega⟩
   rw [qbi, if_pos hsv] at hj
   ((conv => whnf); refine qaw (fun _ => rfl) (by kernel_rfl) 600 [.turn [0] [.ptr 0 0] [pso ts r] (jl ts r).1.av [(0, pso ts (jl ts r).2)]] (by kernel_rfl) ?_)
   (repeat' ((conv => whnf); first | refine Ob.auto ?_ | refine Ob.intro ?_ ?_ | fail))
   ·exact ⟨qsv ht hP, by kernel_rfl, leA, qa, by exact qb rfl, by exact qb rfl⟩
   have hst := qkm ht _ hP.at_
   have hle := (qza ht hP.at_).le
   have hle2 : (must ts r kVar).at_ = r.at_ + 1 := by rw [show must ts r kVar = adv r from if_pos hsv]; rfl
   ((conv => whnf); refine ⟨(m, l ++ [(jl ts r).1], (jl ts r).2), ⟨hS.trans hst, hj, by simp only; omega, by simp; omega⟩, ⟨qa, ⟨⟨⟨rfl, rfl, rfl⟩, rfl, by simp, qmt (t := (jl ts r).1) (by simp) rfl⟩, ⟨rfl, Le.refl _, Le.refl _, Le.refl _, Le.refl _, Le.refl _, Le.of_eq (congrArg (AV.own _ _ _) (by simp)), trivial⟩, qa⟩⟩, ⟨qa, qa⟩, ?_⟩; (first | omega | (dsimp only; omega) | skip))
  ·have hsv : sees ts r kVar = false := by assumption
   have hV : qbi ts ts.length [] (must ts (numP ts (adv (qe ts (must ts p qv)))) sLc) = (l, r) := by
    rw [← hj]
    cases m with
    | zero => rfl
    | succ m => rw [qbi, if_neg (by rw [hsv]; decide)]
   have hw := h.inW (hs0.trans hS) (fun he => by have := (qfs (hS.err0 he)).2; have := hS.le; omega)
   have hso := qfr ht (qhq ht) ts.length l _ hw.at_
   have hd := hso.deep
   have hi := (qcc hP.at_).2.2.1
   have hrd := hP.deep
   have hra := hP.at_.hi
   have e5 : qcw ts p = (.mk 3 [js ts (must ts p qv)] [numN ts (adv (qe ts (must ts p qv)))] (tk ts p).pos (je ts (sF ts) ts.length l (inP ts r)).1, outP (je ts (sF ts) ts.length l (inP ts r)).2) := by
    unfold qcw
    simp only
    rw [if_pos he, hV]
   rw [e5]
   ((conv => whnf); refine zT 600 [0] (qkn hP.at_ (by omega)) qa ?_)
   ((conv => whnf); refine zT 600 [0, 2, 4] (qzf ht (qhq ht) (qzb ht (by have := h.at_.lo; have := h.at_.hi; omega)) (fun q hq => s_rd ht hq) hw 3 (tk ts p).pos [js ts (must ts p qv)] [numN ts (adv (qe ts (must ts p qv)))] l (by omega)) (⟨SoLe.refl _, ⟨rfl, Le.refl _, Le.refl _, Le.refl _, Le.refl _, Le.refl _, Le.refl _, trivial⟩, SoLe.refl _, trivial⟩) ?_)
   (repeat' ((conv => whnf); first | refine Ob.auto ?_ | fail))
   (refine ⟨Le.agg ⟨Le.refl _, ?_, ?_, Le.refl _, Le.refl _, ?_, trivial⟩, qa⟩ <;> first | exact Le.nils _ _ | exact Le.refl _ | exact jg rfl | exact jm rfl | exact jv rfl | exact jt rfl rfl | exact ju rfl rfl | exact jx rfl rfl | exact jy rfl rfl rfl | exact jz (fun _ _ => rfl))
 | false =>
  have t1 : took ts (qe ts (must ts p qv)) qer = (qe ts (must ts p qv)) := if_neg (by rw [he]; decide)
  rw [t1]
  have hsr := hs3.trans (qi ht (hs3.ok h1.at_) sLc)
  have hr := h1.step hsr
  (repeat' ((conv => whnf); first | (apply zB <;> intro hb <;> (try simp [-zd] at hb) <;> try (exfalso; omega))))
  ((conv => whnf); refine zT 600 [0] (qan ht (hs3.ok h1.at_) sLc) qa ?_)
  ((conv => whnf); refine qkb [0, 1, 2] 2 rfl frzA ?_)
  (conv => whnf)
  refine qca 2 5 89 6 rfl rfl ?_
  ((conv => whnf); refine qx (fun _ => rfl) 600 1 (fun _ : Nat × List Tr × Ps => []) (fun g => [(4, .row [] 89 6 0 g.2.1.length (qbq g.2.1)), (2, .box 89 [iv 3, strs [js ts (must ts p qv)], ints [1], .nils, iv (tk ts p).pos, .own 4 0 0 g.2.1.length]), (0, pso ts g.2.2)]) (fun g => Step ts (must ts p qv) g.2.2 ∧ qbi ts g.1 g.2.1 g.2.2 = qbi ts ts.length [] (must ts (qe ts (must ts p qv)) sLc) ∧ (ts.length : Int) - g.2.2.at_ ≤ g.1 ∧ g.2.1.length + g.1 ≤ ts.length) (fun g => g.1) ((ts.length, [], (must ts (qe ts (must ts p qv)) sLc))) (⟨hsr, rfl, by have := hr.at_.lo; simp only; omega, by simp⟩) qa ⟨⟨⟨rfl, rfl, rfl⟩, rfl, rfl, fun j hj => absurd hj (Nat.not_lt_zero j)⟩, ⟨rfl, Le.refl _, jm rfl, jg rfl, Le.refl _, Le.refl _, Le.refl _, trivial⟩, SoLe.refl _, trivial⟩ (fun _ => rfl) (by kernel_rfl) ?_; (conv => whnf))
  rintro ⟨m, l, r⟩ ⟨hS, hj, hk, hl⟩
  simp only at hS hj hk hl
  have hP := h1.step hS
  (repeat' ((conv => whnf); first | refine zE 600 (qee hP.at_ _) ?_ | (apply zB <;> intro hb <;> (try simp [-zd] at hb) <;> try (exfalso; omega))))
  ·have hsv : sees ts r kVar = true := by assumption
   have hm : 1 ≤ m := by have := hP.at_.hi; omega
   obtain ⟨m, rfl⟩ : ∃ m', m = m' + 1 := ⟨m - 1, by omega⟩
   rw [qbi, if_pos hsv] at hj
   ((conv => whnf); refine qaw (fun _ => rfl) (by kernel_rfl) 600 [.turn [0] [.ptr 0 0] [pso ts r] (jl ts r).1.av [(0, pso ts (jl ts r).2)]] (by kernel_rfl) ?_)
   (repeat' ((conv => whnf); first | refine Ob.auto ?_ | refine Ob.intro ?_ ?_ | fail))
   ·exact ⟨qsv ht hP, by kernel_rfl, leA, qa, by exact qb rfl, by exact qb rfl⟩
   have hst := qkm ht _ hP.at_
   have hle := (qza ht hP.at_).le
   have hle2 : (must ts r kVar).at_ = r.at_ + 1 := by rw [show must ts r kVar = adv r from if_pos hsv]; rfl
   ((conv => whnf); refine ⟨(m, l ++ [(jl ts r).1], (jl ts r).2), ⟨hS.trans hst, hj, by simp only; omega, by simp; omega⟩, ⟨qa, ⟨⟨⟨rfl, rfl, rfl⟩, rfl, by simp, qmt (t := (jl ts r).1) (by simp) rfl⟩, ⟨rfl, Le.refl _, Le.refl _, Le.refl _, Le.refl _, Le.refl _, Le.of_eq (congrArg (AV.own _ _ _) (by simp)), trivial⟩, qa⟩⟩, ⟨qa, qa⟩, ?_⟩; (first | omega | (dsimp only; omega) | skip))
  ·have hsv : sees ts r kVar = false := by assumption
   have hV : qbi ts ts.length [] (must ts (qe ts (must ts p qv)) sLc) = (l, r) := by
    rw [← hj]
    cases m with
    | zero => rfl
    | succ m => rw [qbi, if_neg (by rw [hsv]; decide)]
   have hw := h.inW (hs0.trans hS) (fun he => by have := (qfs (hS.err0 he)).2; have := hS.le; omega)
   have hso := qfr ht (qhq ht) ts.length l _ hw.at_
   have hd := hso.deep
   have hi := (qcc hP.at_).2.2.1
   have hrd := hP.deep
   have hra := hP.at_.hi
   have e5 : qcw ts p = (.mk 3 [js ts (must ts p qv)] [1] (tk ts p).pos (je ts (sF ts) ts.length l (inP ts r)).1, outP (je ts (sF ts) ts.length l (inP ts r)).2) := by
    unfold qcw
    simp only
    rw [if_neg (by rw [he]; decide), hV]
   rw [e5]
   ((conv => whnf); refine zT 600 [0] (qkn hP.at_ (by omega)) qa ?_)
   ((conv => whnf); refine zT 600 [0, 2, 4] (qzf ht (qhq ht) (qzb ht (by have := h.at_.lo; have := h.at_.hi; omega)) (fun q hq => s_rd ht hq) hw 3 (tk ts p).pos [js ts (must ts p qv)] [1] l (by omega)) (⟨SoLe.refl _, ⟨rfl, Le.refl _, Le.refl _, Le.refl _, Le.refl _, Le.refl _, Le.refl _, trivial⟩, SoLe.refl _, trivial⟩) ?_)
   (repeat' ((conv => whnf); first | refine Ob.auto ?_ | fail))
   (refine ⟨Le.agg ⟨Le.refl _, ?_, ?_, Le.refl _, Le.refl _, ?_, trivial⟩, qa⟩ <;> first | exact Le.nils _ _ | exact Le.refl _ | exact jg rfl | exact jm rfl | exact jv rfl | exact jt rfl rfl | exact ju rfl rfl | exact jx rfl rfl | exact jy rfl rfl rfl | exact jz (fun _ _ => rfl))
end
end Go.Proofs.Ytdoaagphhjggbaa
