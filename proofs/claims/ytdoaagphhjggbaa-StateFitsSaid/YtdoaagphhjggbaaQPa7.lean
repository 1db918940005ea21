/- Contracts of the document's parser: statements. -/
import Derived.Test.YtdoaagphhjggbaaQPa6
import Derived.Test.YtdoaagphhjggbaaQ2
namespace Go.Proofs.Ytdoaagphhjggbaa
open Go Go.Sx Go.RowKit Go.St Pa
set_option maxRecDepth 100000
set_option maxHeartbeats 8000000

section
variable {ts : List Lx.Tok} {p q : Ps} {n : Nat}

theorem Pre.less (h : Pre ts (n + 1) p) (k : Step ts (adv p) q) : Pre ts n q :=
  ⟨⟨by have := h.at_.lo; have : p.at_ + 1 ≤ q.at_ := k.le; omega, k.hi⟩, by have := h.deep; have : p.at_ + 1 ≤ q.at_ := k.le; have : q.deep = p.deep := k.deep; omega, by have := h.left; have : p.at_ + 1 ≤ q.at_ := k.le; omega⟩

theorem stat_rd (ht : ToksOk ts) : ∀ n q, Pre ts n q → RdT ts 116 (statF ts n) q := by
  intro n
  induction n with
  | zero => intro p h; have := h.left; have := h.at_.hi; omega
  | succ n ih =>
    intro p h
    have h2 := ht.len
    have hB := runs_block ht (runs_stat ht n)
    have hbt : ∀ q, Pre ts n q → RdT ts 120 (blockF ts (statF ts n)) q := by
      cases n with
      | zero => intro q hq; have := hq.left; have := hq.at_.hi; omega
      | succ m => exact fun q hq => block_rd ht (runs_stat ht _) (gains_stat ht m) ih hq
    refine trip_of_exec_frz (T := tab Try.prog) (C := {}) 600 (fun _ => rfl) Try.func116 rfl (by kernel_rfl) (by kernel_rfl) (fun c0 rdb mpb => ?_)
    (repeat' ((conv => whnf); first | refine zA ?_ | refine zO ?_ | refine Ob.auto ?_ | refine zC 600 (pbegin_con h.at_ _) ?_ | refine zG 600 (fun hg => pbegin_con h.at_ _) ?_ | (refine CallY.con (pbegin_con h.at_ _) (by rfl) leA ?_) | (refine CallZ.con (fun hg => pbegin_con h.at_ _) rflsA (by rfl) ?_) | refine zE 600 (pbegin_con h.at_ _) ?_ | refine zF 600 (fun hg => pbegin_con h.at_ _) ?_ | refine zD 600 ?_ | (refine Br.intro (fun hb => ?_) (fun hb => ?_) <;> (try simp [-List.getD_eq_getElem?_getD] at hb) <;> (try (exfalso; omega))) | refine Ob.intro ?_ ?_))
    ((conv => whnf); refine zT 600 [0] (pflag_trip ht h.at_ kIdle) subtA ?_)
    cases hi : sees ts p kIdle with
    | true =>
      have e1 : took ts p kIdle = adv p := if_pos hi
      have e2 : flagN ts p kIdle = 1 := if_pos hi
      have hs1 := sees_adv ht h.at_ hi
      have h1 := h.step hs1
      have e3 : statF ts (n + 1) p = waitsF ts (blockF ts (statF ts n)) (tk ts p).pos 1 (adv p) := (if_pos (.inl hi)).trans (by rw [e1, e2])
      rw [e1, e2]
      (repeat' ((conv => whnf); first | refine zA ?_ | refine zO ?_ | refine Ob.auto ?_ | refine zC 600 (psees_con h1.at_ _) ?_ | refine zG 600 (fun hg => psees_con h1.at_ _) ?_ | (refine CallY.con (psees_con h1.at_ _) (by rfl) leA ?_) | (refine CallZ.con (fun hg => psees_con h1.at_ _) rflsA (by rfl) ?_) | refine zE 600 (psees_con h1.at_ _) ?_ | refine zF 600 (fun hg => psees_con h1.at_ _) ?_ | refine zD 600 ?_ | (refine Br.intro (fun hb => ?_) (fun hb => ?_) <;> (try simp [-List.getD_eq_getElem?_getD] at hb) <;> (try (exfalso; omega))) | refine Ob.intro ?_ ?_))
      cases hr : sees ts (adv p) kRecv with
      | true =>
        have e4 : waitsF ts (blockF ts (statF ts n)) (tk ts p).pos 1 (adv p) = (.mk 8 [nameW ts (adv (adv p)), nameW ts (nameP ts (adv (adv p)))] [1] (tk ts p).pos [], must ts (nameP ts (nameP ts (adv (adv p)))) sSemi) := if_pos hr
        rw [e3, e4]
        ((conv => whnf); refine zT 600 [0, 2] (recv_tr ht h1 hr 1 (tk ts p).pos) (⟨SoLe.refl _, ⟨rfl, Le.refl _, Le.refl _, one_int rfl, Le.refl _, Le.refl _, Le.refl _, trivial⟩, trivial⟩) ?_)
        (repeat' ((conv => whnf); first | refine zA ?_ | refine zO ?_ | refine Ob.auto ?_ | refine zD 600 ?_ | (refine Br.intro (fun hb => ?_) (fun hb => ?_) <;> (try simp [-List.getD_eq_getElem?_getD] at hb) <;> (try (exfalso; omega))) | refine Ob.intro ?_ ?_))
        (refine ⟨Le.agg ⟨Le.refl _, ?_, ?_, Le.refl _, Le.refl _, ?_, trivial⟩, subtA⟩ <;> first | exact Le.nils _ _ | exact Le.refl _ | exact one_int rfl | exact one_str rfl | exact kids_one rfl | exact two_int rfl rfl | exact two_str rfl rfl | exact kids_two' rfl rfl | exact kids_three rfl rfl rfl | exact kidsR_le (fun _ _ => rfl))
      | false =>
        cases hw : sees ts (adv p) kWhen with
        | true =>
          have e4 : waitsF ts (blockF ts (statF ts n)) (tk ts p).pos 1 (adv p) = (.mk 9 [] [1] (tk ts p).pos [(eF ts (adv (adv p))).1], must ts (eF ts (adv (adv p))).2 sSemi) := (if_neg (by rw [hr]; decide)).trans (if_pos hw)
          rw [e3, e4]
          ((conv => whnf); refine zT 600 [0, 2] (when_tr ht h1 hr hw 1 (tk ts p).pos) (⟨SoLe.refl _, ⟨rfl, Le.refl _, Le.refl _, one_int rfl, Le.refl _, Le.refl _, Le.refl _, trivial⟩, trivial⟩) ?_)
          (repeat' ((conv => whnf); first | refine zA ?_ | refine zO ?_ | refine Ob.auto ?_ | refine zD 600 ?_ | (refine Br.intro (fun hb => ?_) (fun hb => ?_) <;> (try simp [-List.getD_eq_getElem?_getD] at hb) <;> (try (exfalso; omega))) | refine Ob.intro ?_ ?_))
          (refine ⟨Le.agg ⟨Le.refl _, ?_, ?_, Le.refl _, Le.refl _, ?_, trivial⟩, subtA⟩ <;> first | exact Le.nils _ _ | exact Le.refl _ | exact one_int rfl | exact one_str rfl | exact kids_one rfl | exact two_int rfl rfl | exact two_str rfl rfl | exact kids_two' rfl rfl | exact kids_three rfl rfl rfl | exact kidsR_le (fun _ _ => rfl))
        | false =>
          have hq : Pre ts n (must ts (adv p) kChoose) := h.less (step_must ht h1.at_ kChoose)
          have e4 : waitsF ts (blockF ts (statF ts n)) (tk ts p).pos 1 (adv p) = (.mk 10 [] [1] (tk ts p).pos (orL ts (blockF ts (statF ts n)) ts.length [(blockF ts (statF ts n) (must ts (adv p) kChoose)).1] (blockF ts (statF ts n) (must ts (adv p) kChoose)).2).1, (orL ts (blockF ts (statF ts n)) ts.length [(blockF ts (statF ts n) (must ts (adv p) kChoose)).1] (blockF ts (statF ts n) (must ts (adv p) kChoose)).2).2) := (if_neg (by rw [hr]; decide)).trans (if_neg (by rw [hw]; decide))
          rw [e3, e4]
          ((conv => whnf); refine zT 600 [0, 2] (choose_tr ht hB hbt h1 hq hr hw 1 (tk ts p).pos) (⟨SoLe.refl _, ⟨rfl, Le.refl _, Le.refl _, one_int rfl, Le.refl _, Le.refl _, Le.refl _, trivial⟩, trivial⟩) ?_)
          (repeat' ((conv => whnf); first | refine zA ?_ | refine zO ?_ | refine Ob.auto ?_ | refine zD 600 ?_ | (refine Br.intro (fun hb => ?_) (fun hb => ?_) <;> (try simp [-List.getD_eq_getElem?_getD] at hb) <;> (try (exfalso; omega))) | refine Ob.intro ?_ ?_))
          (refine ⟨Le.agg ⟨Le.refl _, ?_, ?_, Le.refl _, Le.refl _, ?_, trivial⟩, subtA⟩ <;> first | exact Le.nils _ _ | exact Le.refl _ | exact one_int rfl | exact one_str rfl | exact kids_one rfl | exact two_int rfl rfl | exact two_str rfl rfl | exact kids_two' rfl rfl | exact kids_three rfl rfl rfl | exact kidsR_le (fun _ _ => rfl))
      
    | false =>
      have e1 : took ts p kIdle = p := if_neg (by rw [hi]; decide)
      have e2 : flagN ts p kIdle = 0 := if_neg (by rw [hi]; decide)
      rw [e1, e2]
      (repeat' ((conv => whnf); first | refine zA ?_ | refine zO ?_ | refine Ob.auto ?_ | refine zC 600 (psees_con h.at_ _) ?_ | refine zG 600 (fun hg => psees_con h.at_ _) ?_ | (refine CallY.con (psees_con h.at_ _) (by rfl) leA ?_) | (refine CallZ.con (fun hg => psees_con h.at_ _) rflsA (by rfl) ?_) | refine zE 600 (psees_con h.at_ _) ?_ | refine zF 600 (fun hg => psees_con h.at_ _) ?_ | refine zD 600 ?_ | (refine Br.intro (fun hb => ?_) (fun hb => ?_) <;> (try simp [-List.getD_eq_getElem?_getD] at hb) <;> (try (exfalso; omega))) | refine Ob.intro ?_ ?_))
      · have hcond : sees ts p kIdle = true ∨ sees ts p kRecv = true ∨ sees ts p kWhen = true ∨ sees ts p kChoose = true := by
          rcases hb with (hb | hb) | hb
          · exact .inr (.inl hb)
          · exact .inr (.inr (.inl hb))
          · exact .inr (.inr (.inr hb))
        have e3 : statF ts (n + 1) p = waitsF ts (blockF ts (statF ts n)) (tk ts p).pos 0 p := (if_pos hcond).trans (by rw [e1, e2])
        cases hr : sees ts p kRecv with
        | true =>
          have e4 : waitsF ts (blockF ts (statF ts n)) (tk ts p).pos 0 p = (.mk 8 [nameW ts (adv p), nameW ts (nameP ts (adv p))] [0] (tk ts p).pos [], must ts (nameP ts (nameP ts (adv p))) sSemi) := if_pos hr
          rw [e3, e4]
          ((conv => whnf); refine zT 600 [0, 2] (recv_tr ht h hr 0 (tk ts p).pos) (⟨SoLe.refl _, ⟨rfl, Le.refl _, Le.refl _, one_int rfl, Le.refl _, Le.refl _, Le.refl _, trivial⟩, trivial⟩) ?_)
          (repeat' ((conv => whnf); first | refine zA ?_ | refine zO ?_ | refine Ob.auto ?_ | refine zD 600 ?_ | (refine Br.intro (fun hb => ?_) (fun hb => ?_) <;> (try simp [-List.getD_eq_getElem?_getD] at hb) <;> (try (exfalso; omega))) | refine Ob.intro ?_ ?_))
          (refine ⟨Le.agg ⟨Le.refl _, ?_, ?_, Le.refl _, Le.refl _, ?_, trivial⟩, subtA⟩ <;> first | exact Le.nils _ _ | exact Le.refl _ | exact one_int rfl | exact one_str rfl | exact kids_one rfl | exact two_int rfl rfl | exact two_str rfl rfl | exact kids_two' rfl rfl | exact kids_three rfl rfl rfl | exact kidsR_le (fun _ _ => rfl))
        | false =>
          cases hw : sees ts p kWhen with
          | true =>
            have e4 : waitsF ts (blockF ts (statF ts n)) (tk ts p).pos 0 p = (.mk 9 [] [0] (tk ts p).pos [(eF ts (adv p)).1], must ts (eF ts (adv p)).2 sSemi) := (if_neg (by rw [hr]; decide)).trans (if_pos hw)
            rw [e3, e4]
            ((conv => whnf); refine zT 600 [0, 2] (when_tr ht h hr hw 0 (tk ts p).pos) (⟨SoLe.refl _, ⟨rfl, Le.refl _, Le.refl _, one_int rfl, Le.refl _, Le.refl _, Le.refl _, trivial⟩, trivial⟩) ?_)
            (repeat' ((conv => whnf); first | refine zA ?_ | refine zO ?_ | refine Ob.auto ?_ | refine zD 600 ?_ | (refine Br.intro (fun hb => ?_) (fun hb => ?_) <;> (try simp [-List.getD_eq_getElem?_getD] at hb) <;> (try (exfalso; omega))) | refine Ob.intro ?_ ?_))
            (refine ⟨Le.agg ⟨Le.refl _, ?_, ?_, Le.refl _, Le.refl _, ?_, trivial⟩, subtA⟩ <;> first | exact Le.nils _ _ | exact Le.refl _ | exact one_int rfl | exact one_str rfl | exact kids_one rfl | exact two_int rfl rfl | exact two_str rfl rfl | exact kids_two' rfl rfl | exact kids_three rfl rfl rfl | exact kidsR_le (fun _ _ => rfl))
          | false =>
            have hch : sees ts p kChoose = true := by rcases hcond with hc | hc | hc | hc <;> simp_all
            have hq : Pre ts n (must ts p kChoose) := by rw [show must ts p kChoose = adv p from if_pos hch]; exact h.less (((sees_adv ht h.at_ hch).ok h.at_).refl)
            have e4 : waitsF ts (blockF ts (statF ts n)) (tk ts p).pos 0 p = (.mk 10 [] [0] (tk ts p).pos (orL ts (blockF ts (statF ts n)) ts.length [(blockF ts (statF ts n) (must ts p kChoose)).1] (blockF ts (statF ts n) (must ts p kChoose)).2).1, (orL ts (blockF ts (statF ts n)) ts.length [(blockF ts (statF ts n) (must ts p kChoose)).1] (blockF ts (statF ts n) (must ts p kChoose)).2).2) := (if_neg (by rw [hr]; decide)).trans (if_neg (by rw [hw]; decide))
            rw [e3, e4]
            ((conv => whnf); refine zT 600 [0, 2] (choose_tr ht hB hbt h hq hr hw 0 (tk ts p).pos) (⟨SoLe.refl _, ⟨rfl, Le.refl _, Le.refl _, one_int rfl, Le.refl _, Le.refl _, Le.refl _, trivial⟩, trivial⟩) ?_)
            (repeat' ((conv => whnf); first | refine zA ?_ | refine zO ?_ | refine Ob.auto ?_ | refine zD 600 ?_ | (refine Br.intro (fun hb => ?_) (fun hb => ?_) <;> (try simp [-List.getD_eq_getElem?_getD] at hb) <;> (try (exfalso; omega))) | refine Ob.intro ?_ ?_))
            (refine ⟨Le.agg ⟨Le.refl _, ?_, ?_, Le.refl _, Le.refl _, ?_, trivial⟩, subtA⟩ <;> first | exact Le.nils _ _ | exact Le.refl _ | exact one_int rfl | exact one_str rfl | exact kids_one rfl | exact two_int rfl rfl | exact two_str rfl rfl | exact kids_two' rfl rfl | exact kids_three rfl rfl rfl | exact kidsR_le (fun _ _ => rfl))
        
      have hc0 : ¬ (sees ts p kIdle = true ∨ sees ts p kRecv = true ∨ sees ts p kWhen = true ∨ sees ts p kChoose = true) := by
        rw [hi, hb.1.1, hb.1.2, hb.2]; decide
      ((conv => whnf); refine zT 600 [0] (ptake_trip ht h.at_ kSend) subtA ?_)
      cases hkSend : sees ts p kSend with
      | true =>
        have tkSend : took ts p kSend = adv p := if_pos hkSend
        have hs1 := sees_adv ht h.at_ hkSend
        have h1 : Pre ts n (adv p) := h.less ((hs1.ok h.at_).refl)
        rw [tkSend]
        (repeat' ((conv => whnf); first | refine zA ?_ | refine zO ?_ | refine Ob.auto ?_ | refine zD 600 ?_ | (refine Br.intro (fun hb => ?_) (fun hb => ?_) <;> (try simp [-List.getD_eq_getElem?_getD] at hb) <;> (try (exfalso; omega))) | refine Ob.intro ?_ ?_))
        have e5 : statF ts (n + 1) p = (.mk 7 [nameW ts (adv p)] [] (tk ts p).pos [(eF ts (nameP ts (adv p))).1], must ts (eF ts (nameP ts (adv p))).2 sSemi) := ((if_neg hc0)).trans (if_pos hkSend)
        rw [e5]
        have h2 := h1.step (step_name ht h1.at_)
        have h3 := h2.step (runs_e ht _ h2.at_)
        (repeat' ((conv => whnf); first | refine zA ?_ | refine zO ?_ | refine Ob.auto ?_ | refine zD 600 ?_ | (refine draw4f (fun _ => rfl) (by kernel_rfl) 600 ?_) | (refine Br.intro (fun hb => ?_) (fun hb => ?_) <;> (try simp [-List.getD_eq_getElem?_getD] at hb) <;> (try (exfalso; omega))) | refine Ob.intro ?_ ?_))
        ((conv => whnf); refine CallY.trip [0] (pname_trip ht h1.at_) (by kernel_rfl) leA subtA (by exact rowsLt_nil rfl) (by exact rowsLt_nil rfl) ?_)
        (repeat' ((conv => whnf); first | refine zO ?_ | refine Ob.auto ?_ | refine zD 600 ?_ | (refine draw4f (fun _ => rfl) (by kernel_rfl) 600 ?_) | (refine Br.intro (fun hb => ?_) (fun hb => ?_) <;> (try simp [-List.getD_eq_getElem?_getD] at hb) <;> (try (exfalso; omega))) | refine Ob.intro ?_ ?_))
        ((conv => whnf); refine AltG.far 9 [2] (by kernel_rfl) farA (EndG.go ?_))
        ((conv => whnf); refine draw3 (fun _ => rfl) (by kernel_rfl) 600 [.turn [0] [.ptr 0 0] [pso ts (nameP ts (adv p))] (eF ts (nameP ts (adv p))).1.av [(0, pso ts (eF ts (nameP ts (adv p))).2)]] (by kernel_rfl) ?_)
        (repeat' ((conv => whnf); first | refine zA ?_ | refine zO ?_ | refine Ob.auto ?_ | (refine Ob.intro (by (exact ⟨by omega, by omega⟩)) ?_) | refine zD 600 ?_ | (refine Br.intro (fun hb => ?_) (fun hb => ?_) <;> (try simp [-List.getD_eq_getElem?_getD] at hb) <;> (try (exfalso; omega))) | refine Ob.intro ?_ ?_))
        · exact ⟨e_rd ht h2.full, by kernel_rfl, leA, subtA, by exact rowsLt_nil rfl, by exact rowsLt_nil rfl⟩
        (repeat' ((conv => whnf); first | refine zA ?_ | refine zO ?_ | refine Ob.auto ?_ | refine zD 600 ?_ | (refine Br.intro (fun hb => ?_) (fun hb => ?_) <;> (try simp [-List.getD_eq_getElem?_getD] at hb) <;> (try (exfalso; omega))) | refine Ob.intro ?_ ?_))
        ((conv => whnf); refine zT 600 [0] (pmust_trip ht h3.at_ sSemi) subtA ?_)
        (repeat' ((conv => whnf); first | refine zA ?_ | refine zO ?_ | refine Ob.auto ?_ | refine zD 600 ?_ | (refine Br.intro (fun hb => ?_) (fun hb => ?_) <;> (try simp [-List.getD_eq_getElem?_getD] at hb) <;> (try (exfalso; omega))) | refine Ob.intro ?_ ?_))
        (refine ⟨Le.agg ⟨Le.refl _, ?_, ?_, Le.refl _, Le.refl _, ?_, trivial⟩, subtA⟩ <;> first | exact Le.nils _ _ | exact Le.refl _ | exact one_int rfl | exact one_str rfl | exact kids_one rfl | exact two_int rfl rfl | exact two_str rfl rfl | exact kids_two' rfl rfl | exact kids_three rfl rfl rfl | exact kidsR_le (fun _ _ => rfl))
      | false =>
        have tkSend : took ts p kSend = p := if_neg (by rw [hkSend]; decide)
        rw [tkSend]
        (repeat' ((conv => whnf); first | refine zA ?_ | refine zO ?_ | refine Ob.auto ?_ | refine zD 600 ?_ | (refine Br.intro (fun hb => ?_) (fun hb => ?_) <;> (try simp [-List.getD_eq_getElem?_getD] at hb) <;> (try (exfalso; omega))) | refine Ob.intro ?_ ?_))
        ((conv => whnf); refine zT 600 [0] (ptake_trip ht h.at_ kIf) subtA ?_)
        cases hkIf : sees ts p kIf with
        | true =>
          have tkIf : took ts p kIf = adv p := if_pos hkIf
          have hs1 := sees_adv ht h.at_ hkIf
          have h1 : Pre ts n (adv p) := h.less ((hs1.ok h.at_).refl)
          rw [tkIf]
          (repeat' ((conv => whnf); first | refine zA ?_ | refine zO ?_ | refine Ob.auto ?_ | refine zD 600 ?_ | (refine Br.intro (fun hb => ?_) (fun hb => ?_) <;> (try simp [-List.getD_eq_getElem?_getD] at hb) <;> (try (exfalso; omega))) | refine Ob.intro ?_ ?_))
          have h2 := h1.step (runs_e ht _ h1.at_)
          have h3 := h2.step (hB _ h2.at_)
          ((conv => whnf); refine draw3 (fun _ => rfl) (by kernel_rfl) 600 [.turn [0] [.ptr 0 0] [pso ts (adv p)] (eF ts (adv p)).1.av [(0, pso ts (eF ts (adv p)).2)]] (by kernel_rfl) ?_)
          (repeat' ((conv => whnf); first | refine zA ?_ | refine zO ?_ | refine Ob.auto ?_ | (refine Ob.intro (by (exact ⟨by omega, by omega⟩)) ?_) | refine zD 600 ?_ | (refine Br.intro (fun hb => ?_) (fun hb => ?_) <;> (try simp [-List.getD_eq_getElem?_getD] at hb) <;> (try (exfalso; omega))) | refine Ob.intro ?_ ?_))
          · exact ⟨e_rd ht h1.full, by kernel_rfl, leA, subtA, by exact rowsLt_nil rfl, by exact rowsLt_nil rfl⟩
          ((conv => whnf); refine draw3 (fun _ => rfl) (by kernel_rfl) 600 [.turn [0] [.ptr 0 0] [pso ts (eF ts (adv p)).2] (blockF ts (statF ts n) (eF ts (adv p)).2).1.av [(0, pso ts (blockF ts (statF ts n) (eF ts (adv p)).2).2)]] (by kernel_rfl) ?_)
          (repeat' ((conv => whnf); first | refine zA ?_ | refine zO ?_ | refine Ob.auto ?_ | (refine Ob.intro (by (exact ⟨by omega, by omega⟩)) ?_) | refine zD 600 ?_ | (refine Br.intro (fun hb => ?_) (fun hb => ?_) <;> (try simp [-List.getD_eq_getElem?_getD] at hb) <;> (try (exfalso; omega))) | refine Ob.intro ?_ ?_))
          · exact ⟨hbt _ h2, by kernel_rfl, leA, subtA, by exact rowsLt_nil rfl, by exact rowsLt_nil rfl⟩
          (repeat' ((conv => whnf); first | refine zA ?_ | refine zO ?_ | refine Ob.auto ?_ | refine zD 600 ?_ | (refine Br.intro (fun hb => ?_) (fun hb => ?_) <;> (try simp [-List.getD_eq_getElem?_getD] at hb) <;> (try (exfalso; omega))) | refine Ob.intro ?_ ?_))
          ((conv => whnf); refine zT 600 [0] (ptake_trip ht h3.at_ kElse) subtA ?_)
          cases hel : sees ts (blockF ts (statF ts n) (eF ts (adv p)).2).2 kElse with
          | true =>
            have tel : took ts (blockF ts (statF ts n) (eF ts (adv p)).2).2 kElse = adv (blockF ts (statF ts n) (eF ts (adv p)).2).2 := if_pos hel
            have h4 := h3.step (sees_adv ht h3.at_ hel)
            have e5 : statF ts (n + 1) p = (.mk 11 [] [] (tk ts p).pos [(eF ts (adv p)).1, (blockF ts (statF ts n) (eF ts (adv p)).2).1, (blockF ts (statF ts n) (adv (blockF ts (statF ts n) (eF ts (adv p)).2).2)).1], (blockF ts (statF ts n) (adv (blockF ts (statF ts n) (eF ts (adv p)).2).2)).2) := (((if_neg hc0)).trans (if_neg (by rw [hkSend]; decide))).trans ((if_pos hkIf).trans (if_pos hel))
            rw [tel, e5]
            (repeat' ((conv => whnf); first | refine zA ?_ | refine zO ?_ | refine Ob.auto ?_ | refine zD 600 ?_ | (refine Br.intro (fun hb => ?_) (fun hb => ?_) <;> (try simp [-List.getD_eq_getElem?_getD] at hb) <;> (try (exfalso; omega))) | refine Ob.intro ?_ ?_))
            ((conv => whnf); refine draw3 (fun _ => rfl) (by kernel_rfl) 600 [.turn [0] [.ptr 0 0] [pso ts (adv (blockF ts (statF ts n) (eF ts (adv p)).2).2)] (blockF ts (statF ts n) (adv (blockF ts (statF ts n) (eF ts (adv p)).2).2)).1.av [(0, pso ts (blockF ts (statF ts n) (adv (blockF ts (statF ts n) (eF ts (adv p)).2).2)).2)]] (by kernel_rfl) ?_)
            (repeat' ((conv => whnf); first | refine zA ?_ | refine zO ?_ | refine Ob.auto ?_ | (refine Ob.intro (by (exact ⟨by omega, by omega⟩)) ?_) | refine zD 600 ?_ | (refine Br.intro (fun hb => ?_) (fun hb => ?_) <;> (try simp [-List.getD_eq_getElem?_getD] at hb) <;> (try (exfalso; omega))) | refine Ob.intro ?_ ?_))
            · exact ⟨hbt _ h4, by kernel_rfl, leA, subtA, by exact rowsLt_nil rfl, by exact rowsLt_nil rfl⟩
            (repeat' ((conv => whnf); first | refine zA ?_ | refine zO ?_ | refine Ob.auto ?_ | refine zD 600 ?_ | (refine Br.intro (fun hb => ?_) (fun hb => ?_) <;> (try simp [-List.getD_eq_getElem?_getD] at hb) <;> (try (exfalso; omega))) | refine Ob.intro ?_ ?_))
            (refine ⟨Le.agg ⟨Le.refl _, ?_, ?_, Le.refl _, Le.refl _, ?_, trivial⟩, subtA⟩ <;> first | exact Le.nils _ _ | exact Le.refl _ | exact one_int rfl | exact one_str rfl | exact kids_one rfl | exact two_int rfl rfl | exact two_str rfl rfl | exact kids_two' rfl rfl | exact kids_three rfl rfl rfl | exact kidsR_le (fun _ _ => rfl))
          | false =>
            have tel : took ts (blockF ts (statF ts n) (eF ts (adv p)).2).2 kElse = (blockF ts (statF ts n) (eF ts (adv p)).2).2 := if_neg (by rw [hel]; decide)
            have e5 : statF ts (n + 1) p = (.mk 11 [] [] (tk ts p).pos [(eF ts (adv p)).1, (blockF ts (statF ts n) (eF ts (adv p)).2).1], (blockF ts (statF ts n) (eF ts (adv p)).2).2) := (((if_neg hc0)).trans (if_neg (by rw [hkSend]; decide))).trans ((if_pos hkIf).trans (if_neg (by rw [hel]; decide)))
            rw [tel, e5]
            (repeat' ((conv => whnf); first | refine zA ?_ | refine zO ?_ | refine Ob.auto ?_ | refine zD 600 ?_ | (refine Br.intro (fun hb => ?_) (fun hb => ?_) <;> (try simp [-List.getD_eq_getElem?_getD] at hb) <;> (try (exfalso; omega))) | refine Ob.intro ?_ ?_))
            (refine ⟨Le.agg ⟨Le.refl _, ?_, ?_, Le.refl _, Le.refl _, ?_, trivial⟩, subtA⟩ <;> first | exact Le.nils _ _ | exact Le.refl _ | exact one_int rfl | exact one_str rfl | exact kids_one rfl | exact two_int rfl rfl | exact two_str rfl rfl | exact kids_two' rfl rfl | exact kids_three rfl rfl rfl | exact kidsR_le (fun _ _ => rfl))
        | false =>
          have tkIf : took ts p kIf = p := if_neg (by rw [hkIf]; decide)
          rw [tkIf]
          (repeat' ((conv => whnf); first | refine zA ?_ | refine zO ?_ | refine Ob.auto ?_ | refine zD 600 ?_ | (refine Br.intro (fun hb => ?_) (fun hb => ?_) <;> (try simp [-List.getD_eq_getElem?_getD] at hb) <;> (try (exfalso; omega))) | refine Ob.intro ?_ ?_))
          ((conv => whnf); refine zT 600 [0] (ptake_trip ht h.at_ kWhile) subtA ?_)
          cases hkWhile : sees ts p kWhile with
          | true =>
            have tkWhile : took ts p kWhile = adv p := if_pos hkWhile
            have hs1 := sees_adv ht h.at_ hkWhile
            have h1 : Pre ts n (adv p) := h.less ((hs1.ok h.at_).refl)
            rw [tkWhile]
            (repeat' ((conv => whnf); first | refine zA ?_ | refine zO ?_ | refine Ob.auto ?_ | refine zD 600 ?_ | (refine Br.intro (fun hb => ?_) (fun hb => ?_) <;> (try simp [-List.getD_eq_getElem?_getD] at hb) <;> (try (exfalso; omega))) | refine Ob.intro ?_ ?_))
            have e5 : statF ts (n + 1) p = (.mk 12 [] [] (tk ts p).pos [(eF ts (adv p)).1, (blockF ts (statF ts n) (eF ts (adv p)).2).1], (blockF ts (statF ts n) (eF ts (adv p)).2).2) := ((((if_neg hc0)).trans (if_neg (by rw [hkSend]; decide))).trans (if_neg (by rw [hkIf]; decide))).trans (if_pos hkWhile)
            rw [e5]
            have h2 := h1.step (runs_e ht _ h1.at_)
            ((conv => whnf); refine draw3 (fun _ => rfl) (by kernel_rfl) 600 [.turn [0] [.ptr 0 0] [pso ts (adv p)] (eF ts (adv p)).1.av [(0, pso ts (eF ts (adv p)).2)]] (by kernel_rfl) ?_)
            (repeat' ((conv => whnf); first | refine zA ?_ | refine zO ?_ | refine Ob.auto ?_ | (refine Ob.intro (by (exact ⟨by omega, by omega⟩)) ?_) | refine zD 600 ?_ | (refine Br.intro (fun hb => ?_) (fun hb => ?_) <;> (try simp [-List.getD_eq_getElem?_getD] at hb) <;> (try (exfalso; omega))) | refine Ob.intro ?_ ?_))
            · exact ⟨e_rd ht h1.full, by kernel_rfl, leA, subtA, by exact rowsLt_nil rfl, by exact rowsLt_nil rfl⟩
            ((conv => whnf); refine draw3 (fun _ => rfl) (by kernel_rfl) 600 [.turn [0] [.ptr 0 0] [pso ts (eF ts (adv p)).2] (blockF ts (statF ts n) (eF ts (adv p)).2).1.av [(0, pso ts (blockF ts (statF ts n) (eF ts (adv p)).2).2)]] (by kernel_rfl) ?_)
            (repeat' ((conv => whnf); first | refine zA ?_ | refine zO ?_ | refine Ob.auto ?_ | (refine Ob.intro (by (exact ⟨by omega, by omega⟩)) ?_) | refine zD 600 ?_ | (refine Br.intro (fun hb => ?_) (fun hb => ?_) <;> (try simp [-List.getD_eq_getElem?_getD] at hb) <;> (try (exfalso; omega))) | refine Ob.intro ?_ ?_))
            · exact ⟨hbt _ h2, by kernel_rfl, leA, subtA, by exact rowsLt_nil rfl, by exact rowsLt_nil rfl⟩
            (repeat' ((conv => whnf); first | refine zA ?_ | refine zO ?_ | refine Ob.auto ?_ | refine zD 600 ?_ | (refine Br.intro (fun hb => ?_) (fun hb => ?_) <;> (try simp [-List.getD_eq_getElem?_getD] at hb) <;> (try (exfalso; omega))) | refine Ob.intro ?_ ?_))
            (refine ⟨Le.agg ⟨Le.refl _, ?_, ?_, Le.refl _, Le.refl _, ?_, trivial⟩, subtA⟩ <;> first | exact Le.nils _ _ | exact Le.refl _ | exact one_int rfl | exact one_str rfl | exact kids_one rfl | exact two_int rfl rfl | exact two_str rfl rfl | exact kids_two' rfl rfl | exact kids_three rfl rfl rfl | exact kidsR_le (fun _ _ => rfl))
          | false =>
            have tkWhile : took ts p kWhile = p := if_neg (by rw [hkWhile]; decide)
            rw [tkWhile]
            (repeat' ((conv => whnf); first | refine zA ?_ | refine zO ?_ | refine Ob.auto ?_ | refine zD 600 ?_ | (refine Br.intro (fun hb => ?_) (fun hb => ?_) <;> (try simp [-List.getD_eq_getElem?_getD] at hb) <;> (try (exfalso; omega))) | refine Ob.intro ?_ ?_))
            ((conv => whnf); refine zT 600 [0] (ptake_trip ht h.at_ kAtomic) subtA ?_)
            cases hkAtomic : sees ts p kAtomic with
            | true =>
              have tkAtomic : took ts p kAtomic = adv p := if_pos hkAtomic
              have hs1 := sees_adv ht h.at_ hkAtomic
              have h1 : Pre ts n (adv p) := h.less ((hs1.ok h.at_).refl)
              rw [tkAtomic]
              (repeat' ((conv => whnf); first | refine zA ?_ | refine zO ?_ | refine Ob.auto ?_ | refine zD 600 ?_ | (refine Br.intro (fun hb => ?_) (fun hb => ?_) <;> (try simp [-List.getD_eq_getElem?_getD] at hb) <;> (try (exfalso; omega))) | refine Ob.intro ?_ ?_))
              have e5 : statF ts (n + 1) p = (.mk 13 [] [] (tk ts p).pos [(blockF ts (statF ts n) (adv p)).1], (blockF ts (statF ts n) (adv p)).2) := (((((if_neg hc0)).trans (if_neg (by rw [hkSend]; decide))).trans (if_neg (by rw [hkIf]; decide))).trans (if_neg (by rw [hkWhile]; decide))).trans (if_pos hkAtomic)
              rw [e5]
              ((conv => whnf); refine draw3 (fun _ => rfl) (by kernel_rfl) 600 [.turn [0] [.ptr 0 0] [pso ts (adv p)] (blockF ts (statF ts n) (adv p)).1.av [(0, pso ts (blockF ts (statF ts n) (adv p)).2)]] (by kernel_rfl) ?_)
              (repeat' ((conv => whnf); first | refine zA ?_ | refine zO ?_ | refine Ob.auto ?_ | (refine Ob.intro (by (exact ⟨by omega, by omega⟩)) ?_) | refine zD 600 ?_ | (refine Br.intro (fun hb => ?_) (fun hb => ?_) <;> (try simp [-List.getD_eq_getElem?_getD] at hb) <;> (try (exfalso; omega))) | refine Ob.intro ?_ ?_))
              · exact ⟨hbt _ h1, by kernel_rfl, leA, subtA, by exact rowsLt_nil rfl, by exact rowsLt_nil rfl⟩
              (repeat' ((conv => whnf); first | refine zA ?_ | refine zO ?_ | refine Ob.auto ?_ | refine zD 600 ?_ | (refine Br.intro (fun hb => ?_) (fun hb => ?_) <;> (try simp [-List.getD_eq_getElem?_getD] at hb) <;> (try (exfalso; omega))) | refine Ob.intro ?_ ?_))
              (refine ⟨Le.agg ⟨Le.refl _, ?_, ?_, Le.refl _, Le.refl _, ?_, trivial⟩, subtA⟩ <;> first | exact Le.nils _ _ | exact Le.refl _ | exact one_int rfl | exact one_str rfl | exact kids_one rfl | exact two_int rfl rfl | exact two_str rfl rfl | exact kids_two' rfl rfl | exact kids_three rfl rfl rfl | exact kidsR_le (fun _ _ => rfl))
            | false =>
              have tkAtomic : took ts p kAtomic = p := if_neg (by rw [hkAtomic]; decide)
              rw [tkAtomic]
              (repeat' ((conv => whnf); first | refine zA ?_ | refine zO ?_ | refine Ob.auto ?_ | refine zD 600 ?_ | (refine Br.intro (fun hb => ?_) (fun hb => ?_) <;> (try simp [-List.getD_eq_getElem?_getD] at hb) <;> (try (exfalso; omega))) | refine Ob.intro ?_ ?_))
              ((conv => whnf); refine zT 600 [0] (ptake_trip ht h.at_ kSkip) subtA ?_)
              cases hkSkip : sees ts p kSkip with
              | true =>
                have tkSkip : took ts p kSkip = adv p := if_pos hkSkip
                have hs1 := sees_adv ht h.at_ hkSkip
                have h1 : Pre ts n (adv p) := h.less ((hs1.ok h.at_).refl)
                rw [tkSkip]
                (repeat' ((conv => whnf); first | refine zA ?_ | refine zO ?_ | refine Ob.auto ?_ | refine zD 600 ?_ | (refine Br.intro (fun hb => ?_) (fun hb => ?_) <;> (try simp [-List.getD_eq_getElem?_getD] at hb) <;> (try (exfalso; omega))) | refine Ob.intro ?_ ?_))
                have e5 : statF ts (n + 1) p = (.mk 14 [] [] (tk ts p).pos [], must ts (adv p) sSemi) := ((((((if_neg hc0)).trans (if_neg (by rw [hkSend]; decide))).trans (if_neg (by rw [hkIf]; decide))).trans (if_neg (by rw [hkWhile]; decide))).trans (if_neg (by rw [hkAtomic]; decide))).trans (if_pos hkSkip)
                rw [e5]
                (repeat' ((conv => whnf); first | refine zA ?_ | refine zO ?_ | refine Ob.auto ?_ | refine zD 600 ?_ | (refine Br.intro (fun hb => ?_) (fun hb => ?_) <;> (try simp [-List.getD_eq_getElem?_getD] at hb) <;> (try (exfalso; omega))) | refine Ob.intro ?_ ?_))
                ((conv => whnf); refine zT 600 [0] (pmust_trip ht h1.at_ sSemi) subtA ?_)
                (repeat' ((conv => whnf); first | refine zA ?_ | refine zO ?_ | refine Ob.auto ?_ | refine zD 600 ?_ | (refine Br.intro (fun hb => ?_) (fun hb => ?_) <;> (try simp [-List.getD_eq_getElem?_getD] at hb) <;> (try (exfalso; omega))) | refine Ob.intro ?_ ?_))
                (refine ⟨Le.agg ⟨Le.refl _, ?_, ?_, Le.refl _, Le.refl _, ?_, trivial⟩, subtA⟩ <;> first | exact Le.nils _ _ | exact Le.refl _ | exact one_int rfl | exact one_str rfl | exact kids_one rfl | exact two_int rfl rfl | exact two_str rfl rfl | exact kids_two' rfl rfl | exact kids_three rfl rfl rfl | exact kidsR_le (fun _ _ => rfl))
              | false =>
                have tkSkip : took ts p kSkip = p := if_neg (by rw [hkSkip]; decide)
                rw [tkSkip]
                (repeat' ((conv => whnf); first | refine zA ?_ | refine zO ?_ | refine Ob.auto ?_ | refine zD 600 ?_ | (refine Br.intro (fun hb => ?_) (fun hb => ?_) <;> (try simp [-List.getD_eq_getElem?_getD] at hb) <;> (try (exfalso; omega))) | refine Ob.intro ?_ ?_))
                ((conv => whnf); refine zT 600 [0] (ptake_trip ht h.at_ kStop) subtA ?_)
                cases hkStop : sees ts p kStop with
                | true =>
                  have tkStop : took ts p kStop = adv p := if_pos hkStop
                  have hs1 := sees_adv ht h.at_ hkStop
                  have h1 : Pre ts n (adv p) := h.less ((hs1.ok h.at_).refl)
                  rw [tkStop]
                  (repeat' ((conv => whnf); first | refine zA ?_ | refine zO ?_ | refine Ob.auto ?_ | refine zD 600 ?_ | (refine Br.intro (fun hb => ?_) (fun hb => ?_) <;> (try simp [-List.getD_eq_getElem?_getD] at hb) <;> (try (exfalso; omega))) | refine Ob.intro ?_ ?_))
                  have e5 : statF ts (n + 1) p = (.mk 15 [] [] (tk ts p).pos [], must ts (adv p) sSemi) := (((((((if_neg hc0)).trans (if_neg (by rw [hkSend]; decide))).trans (if_neg (by rw [hkIf]; decide))).trans (if_neg (by rw [hkWhile]; decide))).trans (if_neg (by rw [hkAtomic]; decide))).trans (if_neg (by rw [hkSkip]; decide))).trans (if_pos hkStop)
                  rw [e5]
                  (repeat' ((conv => whnf); first | refine zA ?_ | refine zO ?_ | refine Ob.auto ?_ | refine zD 600 ?_ | (refine Br.intro (fun hb => ?_) (fun hb => ?_) <;> (try simp [-List.getD_eq_getElem?_getD] at hb) <;> (try (exfalso; omega))) | refine Ob.intro ?_ ?_))
                  ((conv => whnf); refine zT 600 [0] (pmust_trip ht h1.at_ sSemi) subtA ?_)
                  (repeat' ((conv => whnf); first | refine zA ?_ | refine zO ?_ | refine Ob.auto ?_ | refine zD 600 ?_ | (refine Br.intro (fun hb => ?_) (fun hb => ?_) <;> (try simp [-List.getD_eq_getElem?_getD] at hb) <;> (try (exfalso; omega))) | refine Ob.intro ?_ ?_))
                  (refine ⟨Le.agg ⟨Le.refl _, ?_, ?_, Le.refl _, Le.refl _, ?_, trivial⟩, subtA⟩ <;> first | exact Le.nils _ _ | exact Le.refl _ | exact one_int rfl | exact one_str rfl | exact kids_one rfl | exact two_int rfl rfl | exact two_str rfl rfl | exact kids_two' rfl rfl | exact kids_three rfl rfl rfl | exact kidsR_le (fun _ _ => rfl))
                | false =>
                  have tkStop : took ts p kStop = p := if_neg (by rw [hkStop]; decide)
                  rw [tkStop]
                  (repeat' ((conv => whnf); first | refine zA ?_ | refine zO ?_ | refine Ob.auto ?_ | refine zD 600 ?_ | (refine Br.intro (fun hb => ?_) (fun hb => ?_) <;> (try simp [-List.getD_eq_getElem?_getD] at hb) <;> (try (exfalso; omega))) | refine Ob.intro ?_ ?_))
                  have e5 : statF ts (n + 1) p = (.mk 6 [nameW ts p] [] (tk ts p).pos [(eF ts (must ts (nameP ts p) sEq)).1], must ts (eF ts (must ts (nameP ts p) sEq)).2 sSemi) := (((((((if_neg hc0)).trans (if_neg (by rw [hkSend]; decide))).trans (if_neg (by rw [hkIf]; decide))).trans (if_neg (by rw [hkWhile]; decide))).trans (if_neg (by rw [hkAtomic]; decide))).trans (if_neg (by rw [hkSkip]; decide))).trans (if_neg (by rw [hkStop]; decide))
                  have h1 := h.step (step_name ht h.at_)
                  have h2 := h1.step (step_must ht h1.at_ sEq)
                  have h3 := h2.step (runs_e ht _ h2.at_)
                  rw [e5]
                  (repeat' ((conv => whnf); first | refine zA ?_ | refine zO ?_ | refine Ob.auto ?_ | refine zD 600 ?_ | (refine draw4f (fun _ => rfl) (by kernel_rfl) 600 ?_) | (refine Br.intro (fun hb => ?_) (fun hb => ?_) <;> (try simp [-List.getD_eq_getElem?_getD] at hb) <;> (try (exfalso; omega))) | refine Ob.intro ?_ ?_))
                  ((conv => whnf); refine CallY.trip [0] (pname_trip ht h.at_) (by kernel_rfl) leA subtA (by exact rowsLt_nil rfl) (by exact rowsLt_nil rfl) ?_)
                  (repeat' ((conv => whnf); first | refine zO ?_ | refine Ob.auto ?_ | refine zD 600 ?_ | (refine draw4f (fun _ => rfl) (by kernel_rfl) 600 ?_) | (refine Br.intro (fun hb => ?_) (fun hb => ?_) <;> (try simp [-List.getD_eq_getElem?_getD] at hb) <;> (try (exfalso; omega))) | refine Ob.intro ?_ ?_))
                  ((conv => whnf); refine AltG.far 9 [2] (by kernel_rfl) farA (EndG.go ?_))
                  (repeat' ((conv => whnf); first | refine zA ?_ | refine zO ?_ | refine Ob.auto ?_ | refine zD 600 ?_ | (refine Br.intro (fun hb => ?_) (fun hb => ?_) <;> (try simp [-List.getD_eq_getElem?_getD] at hb) <;> (try (exfalso; omega))) | refine Ob.intro ?_ ?_))
                  ((conv => whnf); refine zT 600 [0] (pmust_trip ht h1.at_ sEq) subtA ?_)
                  (repeat' ((conv => whnf); first | refine zA ?_ | refine zO ?_ | refine Ob.auto ?_ | refine zD 600 ?_ | (refine Br.intro (fun hb => ?_) (fun hb => ?_) <;> (try simp [-List.getD_eq_getElem?_getD] at hb) <;> (try (exfalso; omega))) | refine Ob.intro ?_ ?_))
                  ((conv => whnf); refine draw3 (fun _ => rfl) (by kernel_rfl) 600 [.turn [0] [.ptr 0 0] [pso ts (must ts (nameP ts p) sEq)] (eF ts (must ts (nameP ts p) sEq)).1.av [(0, pso ts (eF ts (must ts (nameP ts p) sEq)).2)]] (by kernel_rfl) ?_)
                  (repeat' ((conv => whnf); first | refine zA ?_ | refine zO ?_ | refine Ob.auto ?_ | (refine Ob.intro (by (exact ⟨by omega, by omega⟩)) ?_) | refine zD 600 ?_ | (refine Br.intro (fun hb => ?_) (fun hb => ?_) <;> (try simp [-List.getD_eq_getElem?_getD] at hb) <;> (try (exfalso; omega))) | refine Ob.intro ?_ ?_))
                  · exact ⟨e_rd ht h2.full, by kernel_rfl, leA, subtA, by exact rowsLt_nil rfl, by exact rowsLt_nil rfl⟩
                  (repeat' ((conv => whnf); first | refine zA ?_ | refine zO ?_ | refine Ob.auto ?_ | refine zD 600 ?_ | (refine Br.intro (fun hb => ?_) (fun hb => ?_) <;> (try simp [-List.getD_eq_getElem?_getD] at hb) <;> (try (exfalso; omega))) | refine Ob.intro ?_ ?_))
                  ((conv => whnf); refine zT 600 [0] (pmust_trip ht h3.at_ sSemi) subtA ?_)
                  (repeat' ((conv => whnf); first | refine zA ?_ | refine zO ?_ | refine Ob.auto ?_ | refine zD 600 ?_ | (refine Br.intro (fun hb => ?_) (fun hb => ?_) <;> (try simp [-List.getD_eq_getElem?_getD] at hb) <;> (try (exfalso; omega))) | refine Ob.intro ?_ ?_))
                  (refine ⟨Le.agg ⟨Le.refl _, ?_, ?_, Le.refl _, Le.refl _, ?_, trivial⟩, subtA⟩ <;> first | exact Le.nils _ _ | exact Le.refl _ | exact one_int rfl | exact one_str rfl | exact kids_one rfl | exact two_int rfl rfl | exact two_str rfl rfl | exact kids_two' rfl rfl | exact kids_three rfl rfl rfl | exact kidsR_le (fun _ _ => rfl))

theorem s_rd (ht : ToksOk ts) (h : Pre ts n p) : RdT ts 116 (sF ts) p := stat_rd ht _ p h.full

end

end Go.Proofs.Ytdoaagphhjggbaa
