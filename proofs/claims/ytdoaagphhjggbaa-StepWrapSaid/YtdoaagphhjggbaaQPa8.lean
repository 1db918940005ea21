/- Contracts of the document's parser: items. -/
import Derived.Test.YtdoaagphhjggbaaQPa7
import Derived.Test.YtdoaagphhjggbaaQ2
namespace Go.Proofs.Ytdoaagphhjggbaa
open Go Go.Sx Go.RowKit Go.St Pa
set_option maxRecDepth 100000
set_option maxHeartbeats 8000000

section
variable {ts : List Lx.Tok} {p q : Ps} {n : Nat}

theorem jln (ht : ToksOk ts) (h : AtOk ts p) : 0 ≤ numN ts p ∧ numN ts p ≤ 999999 := by
 unfold numN
 split
 ·rename_i hn
  unfold qgk at hn
  simp only [Bool.and_eq_true, beq_iff_eq] at hn
  have h1 := ht.num _ (qzl h) hn.1
  have h2 := qty h1.2 (tk ts p).s.length (Nat.le_refl _)
  rw [List.take_length] at h2
  have h3 : (10 : Int) ^ (tk ts p).s.length ≤ 10 ^ 6 := by exact_mod_cast Nat.pow_le_pow_right (show 0 < 10 by decide) h1.1
  omega
 ·omega

theorem quh (ht : ToksOk ts) (h : Pre ts n p) : RdT ts 91 (jz ts) p := by
 have h2 := ht.len
 have s1 := qk ht h.at_ kVar
 have h1 := h.step s1
 have s3 := qas ht h1.at_
 have h3 := h1.step s3
 have h4 := h3.step (qk ht h3.at_ kOf)
 have h5 := h4.step (qbn ht h4.at_)
 refine qcg (T := tab Try.prog) (C := {}) 600 (fun _ => rfl) Try.func91 rfl (by kernel_rfl) (by kernel_rfl) (fun c0 rdb mpb => ?_)
 (repeat' ((conv => whnf); first | refine zA ?_ | refine zO ?_ | refine Ob.auto ?_ | refine zC 600 (jm h.at_ _) ?_ | refine zG 600 (fun hg => jm h.at_ _) ?_ | (refine CallY.con (jm h.at_ _) (by rfl) leA ?_) | (refine CallZ.con (fun hg => jm h.at_ _) qe (by rfl) ?_) | refine zE 600 (jm h.at_ _) ?_ | refine zF 600 (fun hg => jm h.at_ _) ?_ | refine zD 600 ?_ | (apply zB <;> intro hb <;> (try simp [-List.getD_eq_getElem?_getD] at hb) <;> try (exfalso; omega)) | refine Ob.intro ?_ ?_))
 ((conv => whnf); refine zT 600 [0] (qba ht h.at_ kVar) qa ?_)
 (repeat' ((conv => whnf); first | refine zA ?_ | refine zO ?_ | refine Ob.auto ?_ | refine zD 600 ?_ | (refine ja (fun _ => rfl) (by kernel_rfl) 600 ?_) | (apply zB <;> intro hb <;> (try simp [-List.getD_eq_getElem?_getD] at hb) <;> try (exfalso; omega)) | refine Ob.intro ?_ ?_))
 ((conv => whnf); refine CallY.trip [0] (qhj ht h1.at_) (by kernel_rfl) leA qa (by exact qb rfl) (by exact qb rfl) ?_)
 (repeat' ((conv => whnf); first | refine zO ?_ | refine Ob.auto ?_ | refine zD 600 ?_ | (refine ja (fun _ => rfl) (by kernel_rfl) 600 ?_) | (apply zB <;> intro hb <;> (try simp [-List.getD_eq_getElem?_getD] at hb) <;> try (exfalso; omega)) | refine Ob.intro ?_ ?_))
 ((conv => whnf); refine AltG.far 9 [2] (by kernel_rfl) farA (EndG.go ?_))
 (repeat' ((conv => whnf); first | refine zA ?_ | refine zO ?_ | refine Ob.auto ?_ | refine zD 600 ?_ | (apply zB <;> intro hb <;> (try simp [-List.getD_eq_getElem?_getD] at hb) <;> try (exfalso; omega)) | refine Ob.intro ?_ ?_))
 ((conv => whnf); refine zT 600 [0] (qba ht h3.at_ kOf) qa ?_)
 (repeat' ((conv => whnf); first | refine zA ?_ | refine zO ?_ | refine Ob.auto ?_ | refine zD 600 ?_ | (apply zB <;> intro hb <;> (try simp [-List.getD_eq_getElem?_getD] at hb) <;> try (exfalso; omega)) | refine Ob.intro ?_ ?_))
 ((conv => whnf); refine zT 600 [0] (qjv ht h4.at_) qa ?_)
 (repeat' ((conv => whnf); first | refine zA ?_ | refine zO ?_ | refine Ob.auto ?_ | refine zD 600 ?_ | (apply zB <;> intro hb <;> (try simp [-List.getD_eq_getElem?_getD] at hb) <;> try (exfalso; omega)) | refine Ob.intro ?_ ?_))
 ((conv => whnf); refine zT 600 [0] (qaw ht h5.at_ sEq) qa ?_)
 cases he : sees ts (numP ts (must ts (qf ts (must ts p kVar)) kOf)) sEq with
 | true =>
  have t1 : took ts (numP ts (must ts (qf ts (must ts p kVar)) kOf)) sEq = adv (numP ts (must ts (qf ts (must ts p kVar)) kOf)) := if_pos he
  have h6 := h5.step (qh ht h5.at_ he)
  rw [t1]
  (repeat' ((conv => whnf); first | refine zA ?_ | refine zO ?_ | refine Ob.auto ?_ | refine zD 600 ?_ | (apply zB <;> intro hb <;> (try simp [-List.getD_eq_getElem?_getD] at hb) <;> try (exfalso; omega)) | refine Ob.intro ?_ ?_))
  ((conv => whnf); refine zT 600 [0] (qaw ht h6.at_ qew) qa ?_)
  cases hm : sees ts (adv (numP ts (must ts (qf ts (must ts p kVar)) kOf))) qew with
  | true =>
   have t2 : took ts (adv (numP ts (must ts (qf ts (must ts p kVar)) kOf))) qew = adv (adv (numP ts (must ts (qf ts (must ts p kVar)) kOf))) := if_pos hm
   have h7 := h6.step (qh ht h6.at_ hm)
   have h8 := h7.step (qbn ht h7.at_)
   have hb := jln ht h7.at_
   have e5 : jz ts p = (.mk 2 [qaf ts (must ts p kVar)] [numN ts (must ts (qf ts (must ts p kVar)) kOf), 0 - numN ts (adv (adv (numP ts (must ts (qf ts (must ts p kVar)) kOf))))] (tk ts p).pos [], must ts (numP ts (adv (adv (numP ts (must ts (qf ts (must ts p kVar)) kOf))))) qr) := by
    unfold jz; simp only; rw [if_pos he, if_pos hm]
   rw [t2, e5]
   (repeat' ((conv => whnf); first | refine zA ?_ | refine zO ?_ | refine Ob.auto ?_ | refine zD 600 ?_ | (apply zB <;> intro hb <;> (try simp [-List.getD_eq_getElem?_getD] at hb) <;> try (exfalso; omega)) | refine Ob.intro ?_ ?_))
   ((conv => whnf); refine zT 600 [0] (qjv ht h7.at_) qa ?_)
   (repeat' ((conv => whnf); first | refine zA ?_ | refine zO ?_ | refine Ob.auto ?_ | (refine Ob.intro (by (exact jg (by omega) (by omega))) ?_) | refine zD 600 ?_ | (apply zB <;> intro hb <;> (try simp [-List.getD_eq_getElem?_getD] at hb) <;> try (exfalso; omega)) | refine Ob.intro ?_ ?_))
   ((conv => whnf); refine zT 600 [0] (qba ht h8.at_ qr) qa ?_)
   (repeat' ((conv => whnf); first | refine zA ?_ | refine zO ?_ | refine Ob.auto ?_ | refine zD 600 ?_ | (apply zB <;> intro hb <;> (try simp [-List.getD_eq_getElem?_getD] at hb) <;> try (exfalso; omega)) | refine Ob.intro ?_ ?_))
   (refine ⟨Le.agg ⟨Le.refl _, ?_, ?_, Le.refl _, Le.refl _, ?_, trivial⟩, qa⟩ <;> first | exact Le.nils _ _ | exact Le.refl _ | exact jr rfl | exact qaa rfl | exact qai rfl | exact qag rfl rfl | exact qah rfl rfl | exact qaj rfl rfl | exact qak rfl rfl rfl | exact qal (fun _ _ => rfl))
  | false =>
   have t2 : took ts (adv (numP ts (must ts (qf ts (must ts p kVar)) kOf))) qew = adv (numP ts (must ts (qf ts (must ts p kVar)) kOf)) := if_neg (by rw [hm]; decide)
   have h8 := h6.step (qbn ht h6.at_)
   have e5 : jz ts p = (.mk 2 [qaf ts (must ts p kVar)] [numN ts (must ts (qf ts (must ts p kVar)) kOf), numN ts (adv (numP ts (must ts (qf ts (must ts p kVar)) kOf)))] (tk ts p).pos [], must ts (numP ts (adv (numP ts (must ts (qf ts (must ts p kVar)) kOf)))) qr) := by
    unfold jz; simp only; rw [if_pos he, if_neg (by rw [hm]; decide)]
   rw [t2, e5]
   (repeat' ((conv => whnf); first | refine zA ?_ | refine zO ?_ | refine Ob.auto ?_ | refine zD 600 ?_ | (apply zB <;> intro hb <;> (try simp [-List.getD_eq_getElem?_getD] at hb) <;> try (exfalso; omega)) | refine Ob.intro ?_ ?_))
   ((conv => whnf); refine zT 600 [0] (qjv ht h6.at_) qa ?_)
   (repeat' ((conv => whnf); first | refine zA ?_ | refine zO ?_ | refine Ob.auto ?_ | refine zD 600 ?_ | (apply zB <;> intro hb <;> (try simp [-List.getD_eq_getElem?_getD] at hb) <;> try (exfalso; omega)) | refine Ob.intro ?_ ?_))
   ((conv => whnf); refine zT 600 [0] (qba ht h8.at_ qr) qa ?_)
   (repeat' ((conv => whnf); first | refine zA ?_ | refine zO ?_ | refine Ob.auto ?_ | refine zD 600 ?_ | (apply zB <;> intro hb <;> (try simp [-List.getD_eq_getElem?_getD] at hb) <;> try (exfalso; omega)) | refine Ob.intro ?_ ?_))
   (refine ⟨Le.agg ⟨Le.refl _, ?_, ?_, Le.refl _, Le.refl _, ?_, trivial⟩, qa⟩ <;> first | exact Le.nils _ _ | exact Le.refl _ | exact jr rfl | exact qaa rfl | exact qai rfl | exact qag rfl rfl | exact qah rfl rfl | exact qaj rfl rfl | exact qak rfl rfl rfl | exact qal (fun _ _ => rfl))
 | false =>
  have t1 : took ts (numP ts (must ts (qf ts (must ts p kVar)) kOf)) sEq = (numP ts (must ts (qf ts (must ts p kVar)) kOf)) := if_neg (by rw [he]; decide)
  have e5 : jz ts p = (.mk 2 [qaf ts (must ts p kVar)] [numN ts (must ts (qf ts (must ts p kVar)) kOf), 0] (tk ts p).pos [], must ts (numP ts (must ts (qf ts (must ts p kVar)) kOf)) qr) := by
   unfold jz; simp only; rw [if_neg (by rw [he]; decide)]
  rw [t1, e5]
  (repeat' ((conv => whnf); first | refine zA ?_ | refine zO ?_ | refine Ob.auto ?_ | refine zD 600 ?_ | (apply zB <;> intro hb <;> (try simp [-List.getD_eq_getElem?_getD] at hb) <;> try (exfalso; omega)) | refine Ob.intro ?_ ?_))
  ((conv => whnf); refine zT 600 [0] (qba ht h5.at_ qr) qa ?_)
  (repeat' ((conv => whnf); first | refine zA ?_ | refine zO ?_ | refine Ob.auto ?_ | refine zD 600 ?_ | (apply zB <;> intro hb <;> (try simp [-List.getD_eq_getElem?_getD] at hb) <;> try (exfalso; omega)) | refine Ob.intro ?_ ?_))
  (refine ⟨Le.agg ⟨Le.refl _, ?_, ?_, Le.refl _, Le.refl _, ?_, trivial⟩, qa⟩ <;> first | exact Le.nils _ _ | exact Le.refl _ | exact jr rfl | exact qaa rfl | exact qai rfl | exact qag rfl rfl | exact qah rfl rfl | exact qaj rfl rfl | exact qak rfl rfl rfl | exact qal (fun _ _ => rfl))

theorem jlo (ht : ToksOk ts) (h : Pre ts n p) : RdT ts 92 (qdq ts) p := by
 have h2 := ht.len
 have hs0 := qk ht h.at_ jb
 have h1 := h.step hs0
 have hs3 := qas ht h1.at_
 have h3 := h1.step hs3
 refine qcg (T := tab Try.prog) (C := {}) 600 (fun _ => rfl) Try.func92 rfl (by kernel_rfl) (by kernel_rfl) (fun c0 rdb mpb => ?_)
 (repeat' ((conv => whnf); first | refine zA ?_ | refine zO ?_ | refine Ob.auto ?_ | refine zC 600 (jm h.at_ _) ?_ | refine zG 600 (fun hg => jm h.at_ _) ?_ | (refine CallY.con (jm h.at_ _) (by rfl) leA ?_) | (refine CallZ.con (fun hg => jm h.at_ _) qe (by rfl) ?_) | refine zE 600 (jm h.at_ _) ?_ | refine zF 600 (fun hg => jm h.at_ _) ?_ | refine zD 600 ?_ | (apply zB <;> intro hb <;> (try simp [-List.getD_eq_getElem?_getD] at hb) <;> try (exfalso; omega)) | refine Ob.intro ?_ ?_))
 ((conv => whnf); refine zT 600 [0] (qba ht h.at_ jb) qa ?_)
 (repeat' ((conv => whnf); first | refine zA ?_ | refine zO ?_ | refine Ob.auto ?_ | refine zD 600 ?_ | (refine ja (fun _ => rfl) (by kernel_rfl) 600 ?_) | (apply zB <;> intro hb <;> (try simp [-List.getD_eq_getElem?_getD] at hb) <;> try (exfalso; omega)) | refine Ob.intro ?_ ?_))
 ((conv => whnf); refine CallY.trip [0] (qhj ht h1.at_) (by kernel_rfl) leA qa (by exact qb rfl) (by exact qb rfl) ?_)
 (repeat' ((conv => whnf); first | refine zO ?_ | refine Ob.auto ?_ | refine zD 600 ?_ | (refine ja (fun _ => rfl) (by kernel_rfl) 600 ?_) | (apply zB <;> intro hb <;> (try simp [-List.getD_eq_getElem?_getD] at hb) <;> try (exfalso; omega)) | refine Ob.intro ?_ ?_))
 ((conv => whnf); refine AltG.far 9 [2] (by kernel_rfl) farA (EndG.go ?_))
 (repeat' ((conv => whnf); first | refine zA ?_ | refine zO ?_ | refine Ob.auto ?_ | refine zD 600 ?_ | (apply zB <;> intro hb <;> (try simp [-List.getD_eq_getElem?_getD] at hb) <;> try (exfalso; omega)) | refine Ob.intro ?_ ?_))
 ((conv => whnf); refine zT 600 [0] (qaw ht h3.at_ qfp) qa ?_)
 cases he : sees ts (qf ts (must ts p jb)) qfp with
 | true =>
  have t1 : took ts (qf ts (must ts p jb)) qfp = adv (qf ts (must ts p jb)) := if_pos he
  have hs6 := hs3.trans (qh ht h3.at_ he)
  have hc := hs6.trans (qbn ht (hs6.ok h1.at_))
  rw [t1]
  (repeat' ((conv => whnf); first | refine zA ?_ | refine zO ?_ | refine Ob.auto ?_ | refine zD 600 ?_ | (apply zB <;> intro hb <;> (try simp [-List.getD_eq_getElem?_getD] at hb) <;> try (exfalso; omega)) | refine Ob.intro ?_ ?_))
  ((conv => whnf); refine zT 600 [0] (qjv ht (hs6.ok h1.at_)) qa ?_)
  have hsr := hc.trans (qk ht (hc.ok h1.at_) sLc)
  have hr := h1.step hsr
  (repeat' ((conv => whnf); first | refine zA ?_ | refine zO ?_ | refine Ob.auto ?_ | refine zD 600 ?_ | (apply zB <;> intro hb <;> (try simp [-List.getD_eq_getElem?_getD] at hb) <;> try (exfalso; omega)) | refine Ob.intro ?_ ?_))
  ((conv => whnf); refine zT 600 [0] (qba ht (hc.ok h1.at_) sLc) qa ?_)
  (repeat' ((conv => whnf); first | refine zA ?_ | refine zO ?_ | refine Ob.auto ?_ | refine zD 600 ?_ | (apply zB <;> intro hb <;> (try simp [-List.getD_eq_getElem?_getD] at hb) <;> try (exfalso; omega)) | refine Ob.intro ?_ ?_))
  ((conv => whnf); refine qqs [0, 1, 2] 2 rfl frzA ?_)
  (conv => whnf)
  refine qcr 2 5 89 6 rfl rfl ?_
  ((conv => whnf); refine jf (fun _ => rfl) 600 1 (fun _ : Nat × List Tr × Ps => []) (fun g => [(4, .row [] 89 6 0 g.2.1.length (qcd g.2.1)), (2, .box 89 [iv 3, strs [qaf ts (must ts p jb)], ints [numN ts (adv (qf ts (must ts p jb)))], .nils, iv (tk ts p).pos, .own 4 0 0 g.2.1.length]), (0, pso ts g.2.2)]) (fun g => Step ts (must ts p jb) g.2.2 ∧ qbv ts g.1 g.2.1 g.2.2 = qbv ts ts.length [] (must ts (numP ts (adv (qf ts (must ts p jb)))) sLc) ∧ (ts.length : Int) - g.2.2.at_ ≤ g.1 ∧ g.2.1.length + g.1 ≤ ts.length) (fun g => g.1) ((ts.length, [], (must ts (numP ts (adv (qf ts (must ts p jb)))) sLc))) (⟨hsr, rfl, by have := hr.at_.lo; simp only; omega, by simp⟩) qa ⟨⟨⟨rfl, rfl, rfl⟩, rfl, rfl, fun j hj => absurd hj (Nat.not_lt_zero j)⟩, ⟨rfl, Le.refl _, qaa rfl, jr rfl, Le.refl _, Le.refl _, Le.refl _, trivial⟩, SoLe.refl _, trivial⟩ (fun _ => rfl) (by kernel_rfl) ?_; (conv => whnf))
  rintro ⟨m, l, r⟩ ⟨hS, hj, hk, hl⟩
  simp only at hS hj hk hl
  have hP := h1.step hS
  (repeat' ((conv => whnf); first | refine zA ?_ | refine zO ?_ | refine Ob.auto ?_ | refine zC 600 (qx hP.at_ _) ?_ | refine zG 600 (fun hg => qx hP.at_ _) ?_ | (refine CallY.con (qx hP.at_ _) (by rfl) leA ?_) | (refine CallZ.con (fun hg => qx hP.at_ _) qe (by rfl) ?_) | refine zE 600 (qx hP.at_ _) ?_ | refine zF 600 (fun hg => qx hP.at_ _) ?_ | refine zD 600 ?_ | (apply zB <;> intro hb <;> (try simp [-List.getD_eq_getElem?_getD] at hb) <;> try (exfalso; omega)) | refine Ob.intro ?_ ?_))
  ·have hsv : sees ts r kVar = true := by assumption
   have hm : 1 ≤ m := by have := hP.at_.hi; omega
   obtain ⟨m, rfl⟩ : ∃ m', m = m' + 1 := ⟨m - 1, by omega⟩
   rw [qbv, if_pos hsv] at hj
   ((conv => whnf); refine qbm (fun _ => rfl) (by kernel_rfl) 600 [.turn [0] [.ptr 0 0] [pso ts r] (jz ts r).1.av [(0, pso ts (jz ts r).2)]] (by kernel_rfl) ?_)
   (repeat' ((conv => whnf); first | refine zA ?_ | refine zO ?_ | refine Ob.auto ?_ | (refine Ob.intro (by (exact ⟨by omega, by omega⟩)) ?_) | refine zD 600 ?_ | (apply zB <;> intro hb <;> (try simp [-List.getD_eq_getElem?_getD] at hb) <;> try (exfalso; omega)) | refine Ob.intro ?_ ?_))
   ·exact ⟨quh ht hP, by kernel_rfl, leA, qa, by exact qb rfl, by exact qb rfl⟩
   have hst := qlh ht _ hP.at_
   have hle := (qzu ht hP.at_).le
   have hle2 : (must ts r kVar).at_ = r.at_ + 1 := by rw [show must ts r kVar = adv r from if_pos hsv]; rfl
   ((conv => whnf); refine ⟨(m, l ++ [(jz ts r).1], (jz ts r).2), ⟨hS.trans hst, hj, by simp only; omega, by simp; omega⟩, ⟨qa, ⟨⟨⟨rfl, rfl, rfl⟩, rfl, by simp, qop (t := (jz ts r).1) (by simp) rfl⟩, ⟨rfl, Le.refl _, Le.refl _, Le.refl _, Le.refl _, Le.refl _, Le.of_eq (congrArg (AV.own _ _ _) (by simp)), trivial⟩, qa⟩⟩, ⟨qa, qa⟩, ?_⟩; (first | omega | (dsimp only; omega) | skip))
  ·have hsv : sees ts r kVar = false := by assumption
   have hV : qbv ts ts.length [] (must ts (numP ts (adv (qf ts (must ts p jb)))) sLc) = (l, r) := by
    rw [← hj]
    cases m with
    | zero => rfl
    | succ m => rw [qbv, if_neg (by rw [hsv]; decide)]
   have hw := h.inW (hs0.trans hS) (fun he => by have := (qgo (hS.err0 he)).2; have := hS.le; omega)
   have hso := qgn ht (qil ht) ts.length l _ hw.at_
   have hd := hso.deep
   have hi := (qct hP.at_).2.2.1
   have hrd := hP.deep
   have hra := hP.at_.hi
   have e5 : qdq ts p = (.mk 3 [qaf ts (must ts p jb)] [numN ts (adv (qf ts (must ts p jb)))] (tk ts p).pos (jp ts (sF ts) ts.length l (inP ts r)).1, outP (jp ts (sF ts) ts.length l (inP ts r)).2) := by
    unfold qdq
    simp only
    rw [if_pos he, hV]
   rw [e5]
   ((conv => whnf); refine zT 600 [0] (qlk hP.at_ (by omega)) qa ?_)
   (repeat' ((conv => whnf); first | refine zA ?_ | refine zO ?_ | refine Ob.auto ?_ | refine zD 600 ?_ | (apply zB <;> intro hb <;> (try simp [-List.getD_eq_getElem?_getD] at hb) <;> try (exfalso; omega)) | refine Ob.intro ?_ ?_))
   ((conv => whnf); refine zT 600 [0, 2, 4] (qzz ht (qil ht) (qzv ht (by have := h.at_.lo; have := h.at_.hi; omega)) (fun q hq => s_rd ht hq) hw 3 (tk ts p).pos [qaf ts (must ts p jb)] [numN ts (adv (qf ts (must ts p jb)))] l (by omega)) (⟨SoLe.refl _, ⟨rfl, Le.refl _, Le.refl _, Le.refl _, Le.refl _, Le.refl _, Le.refl _, trivial⟩, SoLe.refl _, trivial⟩) ?_)
   (repeat' ((conv => whnf); first | refine zA ?_ | refine zO ?_ | refine Ob.auto ?_ | (refine Ob.intro (by (exact jg (by omega) (by omega))) ?_) | refine zD 600 ?_ | (apply zB <;> intro hb <;> (try simp [-List.getD_eq_getElem?_getD] at hb) <;> try (exfalso; omega)) | refine Ob.intro ?_ ?_))
   (refine ⟨Le.agg ⟨Le.refl _, ?_, ?_, Le.refl _, Le.refl _, ?_, trivial⟩, qa⟩ <;> first | exact Le.nils _ _ | exact Le.refl _ | exact jr rfl | exact qaa rfl | exact qai rfl | exact qag rfl rfl | exact qah rfl rfl | exact qaj rfl rfl | exact qak rfl rfl rfl | exact qal (fun _ _ => rfl))
 | false =>
  have t1 : took ts (qf ts (must ts p jb)) qfp = (qf ts (must ts p jb)) := if_neg (by rw [he]; decide)
  rw [t1]
  have hsr := hs3.trans (qk ht (hs3.ok h1.at_) sLc)
  have hr := h1.step hsr
  (repeat' ((conv => whnf); first | refine zA ?_ | refine zO ?_ | refine Ob.auto ?_ | refine zD 600 ?_ | (apply zB <;> intro hb <;> (try simp [-List.getD_eq_getElem?_getD] at hb) <;> try (exfalso; omega)) | refine Ob.intro ?_ ?_))
  ((conv => whnf); refine zT 600 [0] (qba ht (hs3.ok h1.at_) sLc) qa ?_)
  (repeat' ((conv => whnf); first | refine zA ?_ | refine zO ?_ | refine Ob.auto ?_ | refine zD 600 ?_ | (apply zB <;> intro hb <;> (try simp [-List.getD_eq_getElem?_getD] at hb) <;> try (exfalso; omega)) | refine Ob.intro ?_ ?_))
  ((conv => whnf); refine qqs [0, 1, 2] 2 rfl frzA ?_)
  (conv => whnf)
  refine qcr 2 5 89 6 rfl rfl ?_
  ((conv => whnf); refine jf (fun _ => rfl) 600 1 (fun _ : Nat × List Tr × Ps => []) (fun g => [(4, .row [] 89 6 0 g.2.1.length (qcd g.2.1)), (2, .box 89 [iv 3, strs [qaf ts (must ts p jb)], ints [1], .nils, iv (tk ts p).pos, .own 4 0 0 g.2.1.length]), (0, pso ts g.2.2)]) (fun g => Step ts (must ts p jb) g.2.2 ∧ qbv ts g.1 g.2.1 g.2.2 = qbv ts ts.length [] (must ts (qf ts (must ts p jb)) sLc) ∧ (ts.length : Int) - g.2.2.at_ ≤ g.1 ∧ g.2.1.length + g.1 ≤ ts.length) (fun g => g.1) ((ts.length, [], (must ts (qf ts (must ts p jb)) sLc))) (⟨hsr, rfl, by have := hr.at_.lo; simp only; omega, by simp⟩) qa ⟨⟨⟨rfl, rfl, rfl⟩, rfl, rfl, fun j hj => absurd hj (Nat.not_lt_zero j)⟩, ⟨rfl, Le.refl _, qaa rfl, jr rfl, Le.refl _, Le.refl _, Le.refl _, trivial⟩, SoLe.refl _, trivial⟩ (fun _ => rfl) (by kernel_rfl) ?_; (conv => whnf))
  rintro ⟨m, l, r⟩ ⟨hS, hj, hk, hl⟩
  simp only at hS hj hk hl
  have hP := h1.step hS
  (repeat' ((conv => whnf); first | refine zA ?_ | refine zO ?_ | refine Ob.auto ?_ | refine zC 600 (qx hP.at_ _) ?_ | refine zG 600 (fun hg => qx hP.at_ _) ?_ | (refine CallY.con (qx hP.at_ _) (by rfl) leA ?_) | (refine CallZ.con (fun hg => qx hP.at_ _) qe (by rfl) ?_) | refine zE 600 (qx hP.at_ _) ?_ | refine zF 600 (fun hg => qx hP.at_ _) ?_ | refine zD 600 ?_ | (apply zB <;> intro hb <;> (try simp [-List.getD_eq_getElem?_getD] at hb) <;> try (exfalso; omega)) | refine Ob.intro ?_ ?_))
  ·have hsv : sees ts r kVar = true := by assumption
   have hm : 1 ≤ m := by have := hP.at_.hi; omega
   obtain ⟨m, rfl⟩ : ∃ m', m = m' + 1 := ⟨m - 1, by omega⟩
   rw [qbv, if_pos hsv] at hj
   ((conv => whnf); refine qbm (fun _ => rfl) (by kernel_rfl) 600 [.turn [0] [.ptr 0 0] [pso ts r] (jz ts r).1.av [(0, pso ts (jz ts r).2)]] (by kernel_rfl) ?_)
   (repeat' ((conv => whnf); first | refine zA ?_ | refine zO ?_ | refine Ob.auto ?_ | (refine Ob.intro (by (exact ⟨by omega, by omega⟩)) ?_) | refine zD 600 ?_ | (apply zB <;> intro hb <;> (try simp [-List.getD_eq_getElem?_getD] at hb) <;> try (exfalso; omega)) | refine Ob.intro ?_ ?_))
   ·exact ⟨quh ht hP, by kernel_rfl, leA, qa, by exact qb rfl, by exact qb rfl⟩
   have hst := qlh ht _ hP.at_
   have hle := (qzu ht hP.at_).le
   have hle2 : (must ts r kVar).at_ = r.at_ + 1 := by rw [show must ts r kVar = adv r from if_pos hsv]; rfl
   ((conv => whnf); refine ⟨(m, l ++ [(jz ts r).1], (jz ts r).2), ⟨hS.trans hst, hj, by simp only; omega, by simp; omega⟩, ⟨qa, ⟨⟨⟨rfl, rfl, rfl⟩, rfl, by simp, qop (t := (jz ts r).1) (by simp) rfl⟩, ⟨rfl, Le.refl _, Le.refl _, Le.refl _, Le.refl _, Le.refl _, Le.of_eq (congrArg (AV.own _ _ _) (by simp)), trivial⟩, qa⟩⟩, ⟨qa, qa⟩, ?_⟩; (first | omega | (dsimp only; omega) | skip))
  ·have hsv : sees ts r kVar = false := by assumption
   have hV : qbv ts ts.length [] (must ts (qf ts (must ts p jb)) sLc) = (l, r) := by
    rw [← hj]
    cases m with
    | zero => rfl
    | succ m => rw [qbv, if_neg (by rw [hsv]; decide)]
   have hw := h.inW (hs0.trans hS) (fun he => by have := (qgo (hS.err0 he)).2; have := hS.le; omega)
   have hso := qgn ht (qil ht) ts.length l _ hw.at_
   have hd := hso.deep
   have hi := (qct hP.at_).2.2.1
   have hrd := hP.deep
   have hra := hP.at_.hi
   have e5 : qdq ts p = (.mk 3 [qaf ts (must ts p jb)] [1] (tk ts p).pos (jp ts (sF ts) ts.length l (inP ts r)).1, outP (jp ts (sF ts) ts.length l (inP ts r)).2) := by
    unfold qdq
    simp only
    rw [if_neg (by rw [he]; decide), hV]
   rw [e5]
   ((conv => whnf); refine zT 600 [0] (qlk hP.at_ (by omega)) qa ?_)
   (repeat' ((conv => whnf); first | refine zA ?_ | refine zO ?_ | refine Ob.auto ?_ | refine zD 600 ?_ | (apply zB <;> intro hb <;> (try simp [-List.getD_eq_getElem?_getD] at hb) <;> try (exfalso; omega)) | refine Ob.intro ?_ ?_))
   ((conv => whnf); refine zT 600 [0, 2, 4] (qzz ht (qil ht) (qzv ht (by have := h.at_.lo; have := h.at_.hi; omega)) (fun q hq => s_rd ht hq) hw 3 (tk ts p).pos [qaf ts (must ts p jb)] [1] l (by omega)) (⟨SoLe.refl _, ⟨rfl, Le.refl _, Le.refl _, Le.refl _, Le.refl _, Le.refl _, Le.refl _, trivial⟩, SoLe.refl _, trivial⟩) ?_)
   (repeat' ((conv => whnf); first | refine zA ?_ | refine zO ?_ | refine Ob.auto ?_ | (refine Ob.intro (by (exact jg (by omega) (by omega))) ?_) | refine zD 600 ?_ | (apply zB <;> intro hb <;> (try simp [-List.getD_eq_getElem?_getD] at hb) <;> try (exfalso; omega)) | refine Ob.intro ?_ ?_))
   (refine ⟨Le.agg ⟨Le.refl _, ?_, ?_, Le.refl _, Le.refl _, ?_, trivial⟩, qa⟩ <;> first | exact Le.nils _ _ | exact Le.refl _ | exact jr rfl | exact qaa rfl | exact qai rfl | exact qag rfl rfl | exact qah rfl rfl | exact qaj rfl rfl | exact qak rfl rfl rfl | exact qal (fun _ _ => rfl))


end

end Go.Proofs.Ytdoaagphhjggbaa
