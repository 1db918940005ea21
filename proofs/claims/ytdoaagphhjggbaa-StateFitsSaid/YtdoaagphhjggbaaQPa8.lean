/- Contracts of the document's parser: items. -/
import Derived.Test.YtdoaagphhjggbaaQPa7
import Derived.Test.YtdoaagphhjggbaaQ2
namespace Go.Proofs.Ytdoaagphhjggbaa
open Go Go.Sx Go.RowKit Go.St Pa
set_option maxRecDepth 100000
set_option maxHeartbeats 8000000

section
variable {ts : List Lx.Tok} {p q : Ps} {n : Nat}

theorem num_bound (ht : ToksOk ts) (h : AtOk ts p) : 0 ≤ numN ts p ∧ numN ts p ≤ 999999 := by
  unfold numN
  split
  · rename_i hn
    unfold isNum at hn
    simp only [Bool.and_eq_true, beq_iff_eq] at hn
    have h1 := ht.num _ (tk_mem h) hn.1
    have h2 := digits_bound h1.2 (tk ts p).s.length (Nat.le_refl _)
    rw [List.take_length] at h2
    have h3 : (10 : Int) ^ (tk ts p).s.length ≤ 10 ^ 6 := by exact_mod_cast Nat.pow_le_pow_right (show 0 < 10 by decide) h1.1
    omega
  · omega

theorem variable_rd (ht : ToksOk ts) (h : Pre ts n p) : RdT ts 91 (variableF ts) p := by
  have h2 := ht.len
  have s1 := step_must ht h.at_ kVar
  have h1 := h.step s1
  have s3 := step_name ht h1.at_
  have h3 := h1.step s3
  have h4 := h3.step (step_must ht h3.at_ kOf)
  have h5 := h4.step (step_num ht h4.at_)
  refine trip_of_exec_frz (T := tab Try.prog) (C := {}) 600 (fun _ => rfl) Try.func91 rfl (by kernel_rfl) (by kernel_rfl) (fun c0 rdb mpb => ?_)
  (repeat' ((conv => whnf); first | refine zA ?_ | refine zO ?_ | refine Ob.auto ?_ | refine zC 600 (pbegin_con h.at_ _) ?_ | refine zG 600 (fun hg => pbegin_con h.at_ _) ?_ | (refine CallY.con (pbegin_con h.at_ _) (by rfl) leA ?_) | (refine CallZ.con (fun hg => pbegin_con h.at_ _) rflsA (by rfl) ?_) | refine zE 600 (pbegin_con h.at_ _) ?_ | refine zF 600 (fun hg => pbegin_con h.at_ _) ?_ | refine zD 600 ?_ | (refine Br.intro (fun hb => ?_) (fun hb => ?_) <;> (try simp [-List.getD_eq_getElem?_getD] at hb) <;> (try (exfalso; omega))) | refine Ob.intro ?_ ?_))
  ((conv => whnf); refine zT 600 [0] (pmust_trip ht h.at_ kVar) subtA ?_)
  (repeat' ((conv => whnf); first | refine zA ?_ | refine zO ?_ | refine Ob.auto ?_ | refine zD 600 ?_ | (refine draw4f (fun _ => rfl) (by kernel_rfl) 600 ?_) | (refine Br.intro (fun hb => ?_) (fun hb => ?_) <;> (try simp [-List.getD_eq_getElem?_getD] at hb) <;> (try (exfalso; omega))) | refine Ob.intro ?_ ?_))
  ((conv => whnf); refine CallY.trip [0] (pname_trip ht h1.at_) (by kernel_rfl) leA subtA (by exact rowsLt_nil rfl) (by exact rowsLt_nil rfl) ?_)
  (repeat' ((conv => whnf); first | refine zO ?_ | refine Ob.auto ?_ | refine zD 600 ?_ | (refine draw4f (fun _ => rfl) (by kernel_rfl) 600 ?_) | (refine Br.intro (fun hb => ?_) (fun hb => ?_) <;> (try simp [-List.getD_eq_getElem?_getD] at hb) <;> (try (exfalso; omega))) | refine Ob.intro ?_ ?_))
  ((conv => whnf); refine AltG.far 9 [2] (by kernel_rfl) farA (EndG.go ?_))
  (repeat' ((conv => whnf); first | refine zA ?_ | refine zO ?_ | refine Ob.auto ?_ | refine zD 600 ?_ | (refine Br.intro (fun hb => ?_) (fun hb => ?_) <;> (try simp [-List.getD_eq_getElem?_getD] at hb) <;> (try (exfalso; omega))) | refine Ob.intro ?_ ?_))
  ((conv => whnf); refine zT 600 [0] (pmust_trip ht h3.at_ kOf) subtA ?_)
  (repeat' ((conv => whnf); first | refine zA ?_ | refine zO ?_ | refine Ob.auto ?_ | refine zD 600 ?_ | (refine Br.intro (fun hb => ?_) (fun hb => ?_) <;> (try simp [-List.getD_eq_getElem?_getD] at hb) <;> (try (exfalso; omega))) | refine Ob.intro ?_ ?_))
  ((conv => whnf); refine zT 600 [0] (pnum_trip ht h4.at_) subtA ?_)
  (repeat' ((conv => whnf); first | refine zA ?_ | refine zO ?_ | refine Ob.auto ?_ | refine zD 600 ?_ | (refine Br.intro (fun hb => ?_) (fun hb => ?_) <;> (try simp [-List.getD_eq_getElem?_getD] at hb) <;> (try (exfalso; omega))) | refine Ob.intro ?_ ?_))
  ((conv => whnf); refine zT 600 [0] (ptake_trip ht h5.at_ sEq) subtA ?_)
  cases he : sees ts (numP ts (must ts (nameP ts (must ts p kVar)) kOf)) sEq with
  | true =>
    have t1 : took ts (numP ts (must ts (nameP ts (must ts p kVar)) kOf)) sEq = adv (numP ts (must ts (nameP ts (must ts p kVar)) kOf)) := if_pos he
    have h6 := h5.step (sees_adv ht h5.at_ he)
    rw [t1]
    (repeat' ((conv => whnf); first | refine zA ?_ | refine zO ?_ | refine Ob.auto ?_ | refine zD 600 ?_ | (refine Br.intro (fun hb => ?_) (fun hb => ?_) <;> (try simp [-List.getD_eq_getElem?_getD] at hb) <;> (try (exfalso; omega))) | refine Ob.intro ?_ ?_))
    ((conv => whnf); refine zT 600 [0] (ptake_trip ht h6.at_ sMinus) subtA ?_)
    cases hm : sees ts (adv (numP ts (must ts (nameP ts (must ts p kVar)) kOf))) sMinus with
    | true =>
      have t2 : took ts (adv (numP ts (must ts (nameP ts (must ts p kVar)) kOf))) sMinus = adv (adv (numP ts (must ts (nameP ts (must ts p kVar)) kOf))) := if_pos hm
      have h7 := h6.step (sees_adv ht h6.at_ hm)
      have h8 := h7.step (step_num ht h7.at_)
      have hb := num_bound ht h7.at_
      have e5 : variableF ts p = (.mk 2 [nameW ts (must ts p kVar)] [numN ts (must ts (nameP ts (must ts p kVar)) kOf), 0 - numN ts (adv (adv (numP ts (must ts (nameP ts (must ts p kVar)) kOf))))] (tk ts p).pos [], must ts (numP ts (adv (adv (numP ts (must ts (nameP ts (must ts p kVar)) kOf))))) sSemi) := by
        unfold variableF; simp only; rw [if_pos he, if_pos hm]
      rw [t2, e5]
      (repeat' ((conv => whnf); first | refine zA ?_ | refine zO ?_ | refine Ob.auto ?_ | refine zD 600 ?_ | (refine Br.intro (fun hb => ?_) (fun hb => ?_) <;> (try simp [-List.getD_eq_getElem?_getD] at hb) <;> (try (exfalso; omega))) | refine Ob.intro ?_ ?_))
      ((conv => whnf); refine zT 600 [0] (pnum_trip ht h7.at_) subtA ?_)
      (repeat' ((conv => whnf); first | refine zA ?_ | refine zO ?_ | refine Ob.auto ?_ | (refine Ob.intro (by (exact inR_i64 (by omega) (by omega))) ?_) | refine zD 600 ?_ | (refine Br.intro (fun hb => ?_) (fun hb => ?_) <;> (try simp [-List.getD_eq_getElem?_getD] at hb) <;> (try (exfalso; omega))) | refine Ob.intro ?_ ?_))
      ((conv => whnf); refine zT 600 [0] (pmust_trip ht h8.at_ sSemi) subtA ?_)
      (repeat' ((conv => whnf); first | refine zA ?_ | refine zO ?_ | refine Ob.auto ?_ | refine zD 600 ?_ | (refine Br.intro (fun hb => ?_) (fun hb => ?_) <;> (try simp [-List.getD_eq_getElem?_getD] at hb) <;> (try (exfalso; omega))) | refine Ob.intro ?_ ?_))
      (refine ⟨Le.agg ⟨Le.refl _, ?_, ?_, Le.refl _, Le.refl _, ?_, trivial⟩, subtA⟩ <;> first | exact Le.nils _ _ | exact Le.refl _ | exact one_int rfl | exact one_str rfl | exact kids_one rfl | exact two_int rfl rfl | exact two_str rfl rfl | exact kids_two' rfl rfl | exact kids_three rfl rfl rfl | exact kidsR_le (fun _ _ => rfl))
    | false =>
      have t2 : took ts (adv (numP ts (must ts (nameP ts (must ts p kVar)) kOf))) sMinus = adv (numP ts (must ts (nameP ts (must ts p kVar)) kOf)) := if_neg (by rw [hm]; decide)
      have h8 := h6.step (step_num ht h6.at_)
      have e5 : variableF ts p = (.mk 2 [nameW ts (must ts p kVar)] [numN ts (must ts (nameP ts (must ts p kVar)) kOf), numN ts (adv (numP ts (must ts (nameP ts (must ts p kVar)) kOf)))] (tk ts p).pos [], must ts (numP ts (adv (numP ts (must ts (nameP ts (must ts p kVar)) kOf)))) sSemi) := by
        unfold variableF; simp only; rw [if_pos he, if_neg (by rw [hm]; decide)]
      rw [t2, e5]
      (repeat' ((conv => whnf); first | refine zA ?_ | refine zO ?_ | refine Ob.auto ?_ | refine zD 600 ?_ | (refine Br.intro (fun hb => ?_) (fun hb => ?_) <;> (try simp [-List.getD_eq_getElem?_getD] at hb) <;> (try (exfalso; omega))) | refine Ob.intro ?_ ?_))
      ((conv => whnf); refine zT 600 [0] (pnum_trip ht h6.at_) subtA ?_)
      (repeat' ((conv => whnf); first | refine zA ?_ | refine zO ?_ | refine Ob.auto ?_ | refine zD 600 ?_ | (refine Br.intro (fun hb => ?_) (fun hb => ?_) <;> (try simp [-List.getD_eq_getElem?_getD] at hb) <;> (try (exfalso; omega))) | refine Ob.intro ?_ ?_))
      ((conv => whnf); refine zT 600 [0] (pmust_trip ht h8.at_ sSemi) subtA ?_)
      (repeat' ((conv => whnf); first | refine zA ?_ | refine zO ?_ | refine Ob.auto ?_ | refine zD 600 ?_ | (refine Br.intro (fun hb => ?_) (fun hb => ?_) <;> (try simp [-List.getD_eq_getElem?_getD] at hb) <;> (try (exfalso; omega))) | refine Ob.intro ?_ ?_))
      (refine ⟨Le.agg ⟨Le.refl _, ?_, ?_, Le.refl _, Le.refl _, ?_, trivial⟩, subtA⟩ <;> first | exact Le.nils _ _ | exact Le.refl _ | exact one_int rfl | exact one_str rfl | exact kids_one rfl | exact two_int rfl rfl | exact two_str rfl rfl | exact kids_two' rfl rfl | exact kids_three rfl rfl rfl | exact kidsR_le (fun _ _ => rfl))
  | false =>
    have t1 : took ts (numP ts (must ts (nameP ts (must ts p kVar)) kOf)) sEq = (numP ts (must ts (nameP ts (must ts p kVar)) kOf)) := if_neg (by rw [he]; decide)
    have e5 : variableF ts p = (.mk 2 [nameW ts (must ts p kVar)] [numN ts (must ts (nameP ts (must ts p kVar)) kOf), 0] (tk ts p).pos [], must ts (numP ts (must ts (nameP ts (must ts p kVar)) kOf)) sSemi) := by
      unfold variableF; simp only; rw [if_neg (by rw [he]; decide)]
    rw [t1, e5]
    (repeat' ((conv => whnf); first | refine zA ?_ | refine zO ?_ | refine Ob.auto ?_ | refine zD 600 ?_ | (refine Br.intro (fun hb => ?_) (fun hb => ?_) <;> (try simp [-List.getD_eq_getElem?_getD] at hb) <;> (try (exfalso; omega))) | refine Ob.intro ?_ ?_))
    ((conv => whnf); refine zT 600 [0] (pmust_trip ht h5.at_ sSemi) subtA ?_)
    (repeat' ((conv => whnf); first | refine zA ?_ | refine zO ?_ | refine Ob.auto ?_ | refine zD 600 ?_ | (refine Br.intro (fun hb => ?_) (fun hb => ?_) <;> (try simp [-List.getD_eq_getElem?_getD] at hb) <;> (try (exfalso; omega))) | refine Ob.intro ?_ ?_))
    (refine ⟨Le.agg ⟨Le.refl _, ?_, ?_, Le.refl _, Le.refl _, ?_, trivial⟩, subtA⟩ <;> first | exact Le.nils _ _ | exact Le.refl _ | exact one_int rfl | exact one_str rfl | exact kids_one rfl | exact two_int rfl rfl | exact two_str rfl rfl | exact kids_two' rfl rfl | exact kids_three rfl rfl rfl | exact kidsR_le (fun _ _ => rfl))

theorem process_rd (ht : ToksOk ts) (h : Pre ts n p) : RdT ts 92 (processF ts) p := by
  have h2 := ht.len
  have hs0 := step_must ht h.at_ kProc
  have h1 := h.step hs0
  have hs3 := step_name ht h1.at_
  have h3 := h1.step hs3
  refine trip_of_exec_frz (T := tab Try.prog) (C := {}) 600 (fun _ => rfl) Try.func92 rfl (by kernel_rfl) (by kernel_rfl) (fun c0 rdb mpb => ?_)
  (repeat' ((conv => whnf); first | refine zA ?_ | refine zO ?_ | refine Ob.auto ?_ | refine zC 600 (pbegin_con h.at_ _) ?_ | refine zG 600 (fun hg => pbegin_con h.at_ _) ?_ | (refine CallY.con (pbegin_con h.at_ _) (by rfl) leA ?_) | (refine CallZ.con (fun hg => pbegin_con h.at_ _) rflsA (by rfl) ?_) | refine zE 600 (pbegin_con h.at_ _) ?_ | refine zF 600 (fun hg => pbegin_con h.at_ _) ?_ | refine zD 600 ?_ | (refine Br.intro (fun hb => ?_) (fun hb => ?_) <;> (try simp [-List.getD_eq_getElem?_getD] at hb) <;> (try (exfalso; omega))) | refine Ob.intro ?_ ?_))
  ((conv => whnf); refine zT 600 [0] (pmust_trip ht h.at_ kProc) subtA ?_)
  (repeat' ((conv => whnf); first | refine zA ?_ | refine zO ?_ | refine Ob.auto ?_ | refine zD 600 ?_ | (refine draw4f (fun _ => rfl) (by kernel_rfl) 600 ?_) | (refine Br.intro (fun hb => ?_) (fun hb => ?_) <;> (try simp [-List.getD_eq_getElem?_getD] at hb) <;> (try (exfalso; omega))) | refine Ob.intro ?_ ?_))
  ((conv => whnf); refine CallY.trip [0] (pname_trip ht h1.at_) (by kernel_rfl) leA subtA (by exact rowsLt_nil rfl) (by exact rowsLt_nil rfl) ?_)
  (repeat' ((conv => whnf); first | refine zO ?_ | refine Ob.auto ?_ | refine zD 600 ?_ | (refine draw4f (fun _ => rfl) (by kernel_rfl) 600 ?_) | (refine Br.intro (fun hb => ?_) (fun hb => ?_) <;> (try simp [-List.getD_eq_getElem?_getD] at hb) <;> (try (exfalso; omega))) | refine Ob.intro ?_ ?_))
  ((conv => whnf); refine AltG.far 9 [2] (by kernel_rfl) farA (EndG.go ?_))
  (repeat' ((conv => whnf); first | refine zA ?_ | refine zO ?_ | refine Ob.auto ?_ | refine zD 600 ?_ | (refine Br.intro (fun hb => ?_) (fun hb => ?_) <;> (try simp [-List.getD_eq_getElem?_getD] at hb) <;> (try (exfalso; omega))) | refine Ob.intro ?_ ?_))
  ((conv => whnf); refine zT 600 [0] (ptake_trip ht h3.at_ sStar) subtA ?_)
  cases he : sees ts (nameP ts (must ts p kProc)) sStar with
  | true =>
    have t1 : took ts (nameP ts (must ts p kProc)) sStar = adv (nameP ts (must ts p kProc)) := if_pos he
    have hs6 := hs3.trans (sees_adv ht h3.at_ he)
    have hc := hs6.trans (step_num ht (hs6.ok h1.at_))
    rw [t1]
    (repeat' ((conv => whnf); first | refine zA ?_ | refine zO ?_ | refine Ob.auto ?_ | refine zD 600 ?_ | (refine Br.intro (fun hb => ?_) (fun hb => ?_) <;> (try simp [-List.getD_eq_getElem?_getD] at hb) <;> (try (exfalso; omega))) | refine Ob.intro ?_ ?_))
    ((conv => whnf); refine zT 600 [0] (pnum_trip ht (hs6.ok h1.at_)) subtA ?_)
    have hsr := hc.trans (step_must ht (hc.ok h1.at_) sLc)
    have hr := h1.step hsr
    (repeat' ((conv => whnf); first | refine zA ?_ | refine zO ?_ | refine Ob.auto ?_ | refine zD 600 ?_ | (refine Br.intro (fun hb => ?_) (fun hb => ?_) <;> (try simp [-List.getD_eq_getElem?_getD] at hb) <;> (try (exfalso; omega))) | refine Ob.intro ?_ ?_))
    ((conv => whnf); refine zT 600 [0] (pmust_trip ht (hc.ok h1.at_) sLc) subtA ?_)
    (repeat' ((conv => whnf); first | refine zA ?_ | refine zO ?_ | refine Ob.auto ?_ | refine zD 600 ?_ | (refine Br.intro (fun hb => ?_) (fun hb => ?_) <;> (try simp [-List.getD_eq_getElem?_getD] at hb) <;> (try (exfalso; omega))) | refine Ob.intro ?_ ?_))
    ((conv => whnf); refine loop_frz [0, 1, 2] 2 rfl frzA ?_)
    (conv => whnf)
    refine loop_nil 2 5 89 6 rfl rfl ?_
    ((conv => whnf); refine loop_auto (fun _ => rfl) 600 1 (fun _ : Nat × List Tr × Ps => []) (fun g => [(4, .row [] 89 6 0 g.2.1.length (kidsR g.2.1)), (2, .box 89 [iv 3, strs [nameW ts (must ts p kProc)], ints [numN ts (adv (nameP ts (must ts p kProc)))], .nils, iv (tk ts p).pos, .own 4 0 0 g.2.1.length]), (0, pso ts g.2.2)]) (fun g => Step ts (must ts p kProc) g.2.2 ∧ varsL ts g.1 g.2.1 g.2.2 = varsL ts ts.length [] (must ts (numP ts (adv (nameP ts (must ts p kProc)))) sLc) ∧ (ts.length : Int) - g.2.2.at_ ≤ g.1 ∧ g.2.1.length + g.1 ≤ ts.length) (fun g => g.1) ((ts.length, [], (must ts (numP ts (adv (nameP ts (must ts p kProc)))) sLc))) (⟨hsr, rfl, by have := hr.at_.lo; simp only; omega, by simp⟩) subtA ⟨⟨⟨rfl, rfl, rfl⟩, rfl, rfl, fun j hj => absurd hj (Nat.not_lt_zero j)⟩, ⟨rfl, Le.refl _, one_str rfl, one_int rfl, Le.refl _, Le.refl _, Le.refl _, trivial⟩, SoLe.refl _, trivial⟩ (fun _ => rfl) (by kernel_rfl) ?_; (conv => whnf))
    rintro ⟨m, l, r⟩ ⟨hS, hj, hk, hl⟩
    simp only at hS hj hk hl
    have hP := h1.step hS
    (repeat' ((conv => whnf); first | refine zA ?_ | refine zO ?_ | refine Ob.auto ?_ | refine zC 600 (psees_con hP.at_ _) ?_ | refine zG 600 (fun hg => psees_con hP.at_ _) ?_ | (refine CallY.con (psees_con hP.at_ _) (by rfl) leA ?_) | (refine CallZ.con (fun hg => psees_con hP.at_ _) rflsA (by rfl) ?_) | refine zE 600 (psees_con hP.at_ _) ?_ | refine zF 600 (fun hg => psees_con hP.at_ _) ?_ | refine zD 600 ?_ | (refine Br.intro (fun hb => ?_) (fun hb => ?_) <;> (try simp [-List.getD_eq_getElem?_getD] at hb) <;> (try (exfalso; omega))) | refine Ob.intro ?_ ?_))
    · have hsv : sees ts r kVar = true := by assumption
      have hm : 1 ≤ m := by have := hP.at_.hi; omega
      obtain ⟨m, rfl⟩ : ∃ m', m = m' + 1 := ⟨m - 1, by omega⟩
      rw [varsL, if_pos hsv] at hj
      ((conv => whnf); refine draw3 (fun _ => rfl) (by kernel_rfl) 600 [.turn [0] [.ptr 0 0] [pso ts r] (variableF ts r).1.av [(0, pso ts (variableF ts r).2)]] (by kernel_rfl) ?_)
      (repeat' ((conv => whnf); first | refine zA ?_ | refine zO ?_ | refine Ob.auto ?_ | (refine Ob.intro (by (exact ⟨by omega, by omega⟩)) ?_) | refine zD 600 ?_ | (refine Br.intro (fun hb => ?_) (fun hb => ?_) <;> (try simp [-List.getD_eq_getElem?_getD] at hb) <;> (try (exfalso; omega))) | refine Ob.intro ?_ ?_))
      · exact ⟨variable_rd ht hP, by kernel_rfl, leA, subtA, by exact rowsLt_nil rfl, by exact rowsLt_nil rfl⟩
      have hst := runs_variable ht _ hP.at_
      have hle := (variable_rest ht hP.at_).le
      have hle2 : (must ts r kVar).at_ = r.at_ + 1 := by rw [show must ts r kVar = adv r from if_pos hsv]; rfl
      ((conv => whnf); refine ⟨(m, l ++ [(variableF ts r).1], (variableF ts r).2), ⟨hS.trans hst, hj, by simp only; omega, by simp; omega⟩, ⟨subtA, ⟨⟨⟨rfl, rfl, rfl⟩, rfl, by simp, kids_put (t := (variableF ts r).1) (by simp) rfl⟩, ⟨rfl, Le.refl _, Le.refl _, Le.refl _, Le.refl _, Le.refl _, Le.of_eq (congrArg (AV.own _ _ _) (by simp)), trivial⟩, subtA⟩⟩, ⟨subtA, subtA⟩, ?_⟩; (first | omega | (dsimp only; omega) | skip))
    · have hsv : sees ts r kVar = false := by assumption
      have hV : varsL ts ts.length [] (must ts (numP ts (adv (nameP ts (must ts p kProc)))) sLc) = (l, r) := by
        rw [← hj]
        cases m with
        | zero => rfl
        | succ m => rw [varsL, if_neg (by rw [hsv]; decide)]
      have hw := h.inW (hs0.trans hS) (fun he => by have := (must_ok (hS.err0 he)).2; have := hS.le; omega)
      have hso := step_stats ht (runs_s ht) ts.length l _ hw.at_
      have hd := hso.deep
      have hi := (at_in hP.at_).2.2.1
      have hrd := hP.deep
      have hra := hP.at_.hi
      have e5 : processF ts p = (.mk 3 [nameW ts (must ts p kProc)] [numN ts (adv (nameP ts (must ts p kProc)))] (tk ts p).pos (statsL ts (sF ts) ts.length l (inP ts r)).1, outP (statsL ts (sF ts) ts.length l (inP ts r)).2) := by
        unfold processF
        simp only
        rw [if_pos he, hV]
      rw [e5]
      ((conv => whnf); refine zT 600 [0] (pin_trip hP.at_ (by omega)) subtA ?_)
      (repeat' ((conv => whnf); first | refine zA ?_ | refine zO ?_ | refine Ob.auto ?_ | refine zD 600 ?_ | (refine Br.intro (fun hb => ?_) (fun hb => ?_) <;> (try simp [-List.getD_eq_getElem?_getD] at hb) <;> (try (exfalso; omega))) | refine Ob.intro ?_ ?_))
      ((conv => whnf); refine zT 600 [0, 2, 4] (stats_own ht (runs_s ht) (gains_s ht (by have := h.at_.lo; have := h.at_.hi; omega)) (fun q hq => s_rd ht hq) hw 3 (tk ts p).pos [nameW ts (must ts p kProc)] [numN ts (adv (nameP ts (must ts p kProc)))] l (by omega)) (⟨SoLe.refl _, ⟨rfl, Le.refl _, Le.refl _, Le.refl _, Le.refl _, Le.refl _, Le.refl _, trivial⟩, SoLe.refl _, trivial⟩) ?_)
      (repeat' ((conv => whnf); first | refine zA ?_ | refine zO ?_ | refine Ob.auto ?_ | (refine Ob.intro (by (exact inR_i64 (by omega) (by omega))) ?_) | refine zD 600 ?_ | (refine Br.intro (fun hb => ?_) (fun hb => ?_) <;> (try simp [-List.getD_eq_getElem?_getD] at hb) <;> (try (exfalso; omega))) | refine Ob.intro ?_ ?_))
      (refine ⟨Le.agg ⟨Le.refl _, ?_, ?_, Le.refl _, Le.refl _, ?_, trivial⟩, subtA⟩ <;> first | exact Le.nils _ _ | exact Le.refl _ | exact one_int rfl | exact one_str rfl | exact kids_one rfl | exact two_int rfl rfl | exact two_str rfl rfl | exact kids_two' rfl rfl | exact kids_three rfl rfl rfl | exact kidsR_le (fun _ _ => rfl))
  | false =>
    have t1 : took ts (nameP ts (must ts p kProc)) sStar = (nameP ts (must ts p kProc)) := if_neg (by rw [he]; decide)
    rw [t1]
    have hsr := hs3.trans (step_must ht (hs3.ok h1.at_) sLc)
    have hr := h1.step hsr
    (repeat' ((conv => whnf); first | refine zA ?_ | refine zO ?_ | refine Ob.auto ?_ | refine zD 600 ?_ | (refine Br.intro (fun hb => ?_) (fun hb => ?_) <;> (try simp [-List.getD_eq_getElem?_getD] at hb) <;> (try (exfalso; omega))) | refine Ob.intro ?_ ?_))
    ((conv => whnf); refine zT 600 [0] (pmust_trip ht (hs3.ok h1.at_) sLc) subtA ?_)
    (repeat' ((conv => whnf); first | refine zA ?_ | refine zO ?_ | refine Ob.auto ?_ | refine zD 600 ?_ | (refine Br.intro (fun hb => ?_) (fun hb => ?_) <;> (try simp [-List.getD_eq_getElem?_getD] at hb) <;> (try (exfalso; omega))) | refine Ob.intro ?_ ?_))
    ((conv => whnf); refine loop_frz [0, 1, 2] 2 rfl frzA ?_)
    (conv => whnf)
    refine loop_nil 2 5 89 6 rfl rfl ?_
    ((conv => whnf); refine loop_auto (fun _ => rfl) 600 1 (fun _ : Nat × List Tr × Ps => []) (fun g => [(4, .row [] 89 6 0 g.2.1.length (kidsR g.2.1)), (2, .box 89 [iv 3, strs [nameW ts (must ts p kProc)], ints [1], .nils, iv (tk ts p).pos, .own 4 0 0 g.2.1.length]), (0, pso ts g.2.2)]) (fun g => Step ts (must ts p kProc) g.2.2 ∧ varsL ts g.1 g.2.1 g.2.2 = varsL ts ts.length [] (must ts (nameP ts (must ts p kProc)) sLc) ∧ (ts.length : Int) - g.2.2.at_ ≤ g.1 ∧ g.2.1.length + g.1 ≤ ts.length) (fun g => g.1) ((ts.length, [], (must ts (nameP ts (must ts p kProc)) sLc))) (⟨hsr, rfl, by have := hr.at_.lo; simp only; omega, by simp⟩) subtA ⟨⟨⟨rfl, rfl, rfl⟩, rfl, rfl, fun j hj => absurd hj (Nat.not_lt_zero j)⟩, ⟨rfl, Le.refl _, one_str rfl, one_int rfl, Le.refl _, Le.refl _, Le.refl _, trivial⟩, SoLe.refl _, trivial⟩ (fun _ => rfl) (by kernel_rfl) ?_; (conv => whnf))
    rintro ⟨m, l, r⟩ ⟨hS, hj, hk, hl⟩
    simp only at hS hj hk hl
    have hP := h1.step hS
    (repeat' ((conv => whnf); first | refine zA ?_ | refine zO ?_ | refine Ob.auto ?_ | refine zC 600 (psees_con hP.at_ _) ?_ | refine zG 600 (fun hg => psees_con hP.at_ _) ?_ | (refine CallY.con (psees_con hP.at_ _) (by rfl) leA ?_) | (refine CallZ.con (fun hg => psees_con hP.at_ _) rflsA (by rfl) ?_) | refine zE 600 (psees_con hP.at_ _) ?_ | refine zF 600 (fun hg => psees_con hP.at_ _) ?_ | refine zD 600 ?_ | (refine Br.intro (fun hb => ?_) (fun hb => ?_) <;> (try simp [-List.getD_eq_getElem?_getD] at hb) <;> (try (exfalso; omega))) | refine Ob.intro ?_ ?_))
    · have hsv : sees ts r kVar = true := by assumption
      have hm : 1 ≤ m := by have := hP.at_.hi; omega
      obtain ⟨m, rfl⟩ : ∃ m', m = m' + 1 := ⟨m - 1, by omega⟩
      rw [varsL, if_pos hsv] at hj
      ((conv => whnf); refine draw3 (fun _ => rfl) (by kernel_rfl) 600 [.turn [0] [.ptr 0 0] [pso ts r] (variableF ts r).1.av [(0, pso ts (variableF ts r).2)]] (by kernel_rfl) ?_)
      (repeat' ((conv => whnf); first | refine zA ?_ | refine zO ?_ | refine Ob.auto ?_ | (refine Ob.intro (by (exact ⟨by omega, by omega⟩)) ?_) | refine zD 600 ?_ | (refine Br.intro (fun hb => ?_) (fun hb => ?_) <;> (try simp [-List.getD_eq_getElem?_getD] at hb) <;> (try (exfalso; omega))) | refine Ob.intro ?_ ?_))
      · exact ⟨variable_rd ht hP, by kernel_rfl, leA, subtA, by exact rowsLt_nil rfl, by exact rowsLt_nil rfl⟩
      have hst := runs_variable ht _ hP.at_
      have hle := (variable_rest ht hP.at_).le
      have hle2 : (must ts r kVar).at_ = r.at_ + 1 := by rw [show must ts r kVar = adv r from if_pos hsv]; rfl
      ((conv => whnf); refine ⟨(m, l ++ [(variableF ts r).1], (variableF ts r).2), ⟨hS.trans hst, hj, by simp only; omega, by simp; omega⟩, ⟨subtA, ⟨⟨⟨rfl, rfl, rfl⟩, rfl, by simp, kids_put (t := (variableF ts r).1) (by simp) rfl⟩, ⟨rfl, Le.refl _, Le.refl _, Le.refl _, Le.refl _, Le.refl _, Le.of_eq (congrArg (AV.own _ _ _) (by simp)), trivial⟩, subtA⟩⟩, ⟨subtA, subtA⟩, ?_⟩; (first | omega | (dsimp only; omega) | skip))
    · have hsv : sees ts r kVar = false := by assumption
      have hV : varsL ts ts.length [] (must ts (nameP ts (must ts p kProc)) sLc) = (l, r) := by
        rw [← hj]
        cases m with
        | zero => rfl
        | succ m => rw [varsL, if_neg (by rw [hsv]; decide)]
      have hw := h.inW (hs0.trans hS) (fun he => by have := (must_ok (hS.err0 he)).2; have := hS.le; omega)
      have hso := step_stats ht (runs_s ht) ts.length l _ hw.at_
      have hd := hso.deep
      have hi := (at_in hP.at_).2.2.1
      have hrd := hP.deep
      have hra := hP.at_.hi
      have e5 : processF ts p = (.mk 3 [nameW ts (must ts p kProc)] [1] (tk ts p).pos (statsL ts (sF ts) ts.length l (inP ts r)).1, outP (statsL ts (sF ts) ts.length l (inP ts r)).2) := by
        unfold processF
        simp only
        rw [if_neg (by rw [he]; decide), hV]
      rw [e5]
      ((conv => whnf); refine zT 600 [0] (pin_trip hP.at_ (by omega)) subtA ?_)
      (repeat' ((conv => whnf); first | refine zA ?_ | refine zO ?_ | refine Ob.auto ?_ | refine zD 600 ?_ | (refine Br.intro (fun hb => ?_) (fun hb => ?_) <;> (try simp [-List.getD_eq_getElem?_getD] at hb) <;> (try (exfalso; omega))) | refine Ob.intro ?_ ?_))
      ((conv => whnf); refine zT 600 [0, 2, 4] (stats_own ht (runs_s ht) (gains_s ht (by have := h.at_.lo; have := h.at_.hi; omega)) (fun q hq => s_rd ht hq) hw 3 (tk ts p).pos [nameW ts (must ts p kProc)] [1] l (by omega)) (⟨SoLe.refl _, ⟨rfl, Le.refl _, Le.refl _, Le.refl _, Le.refl _, Le.refl _, Le.refl _, trivial⟩, SoLe.refl _, trivial⟩) ?_)
      (repeat' ((conv => whnf); first | refine zA ?_ | refine zO ?_ | refine Ob.auto ?_ | (refine Ob.intro (by (exact inR_i64 (by omega) (by omega))) ?_) | refine zD 600 ?_ | (refine Br.intro (fun hb => ?_) (fun hb => ?_) <;> (try simp [-List.getD_eq_getElem?_getD] at hb) <;> (try (exfalso; omega))) | refine Ob.intro ?_ ?_))
      (refine ⟨Le.agg ⟨Le.refl _, ?_, ?_, Le.refl _, Le.refl _, ?_, trivial⟩, subtA⟩ <;> first | exact Le.nils _ _ | exact Le.refl _ | exact one_int rfl | exact one_str rfl | exact kids_one rfl | exact two_int rfl rfl | exact two_str rfl rfl | exact kids_two' rfl rfl | exact kids_three rfl rfl rfl | exact kidsR_le (fun _ _ => rfl))


end

end Go.Proofs.Ytdoaagphhjggbaa
