/- Contracts of the document's parser: statements. -/
import Derived.Test.YtdoaagphhjggbaaGreatQPa6
import Derived.Test.YtdoaagphhjggbaaGreatQ2
namespace Go.Proofs.YtdoaagphhjggbaaGreat
open List renaming getD_eq_getElem?_getD → zd
open Go Go.Sx Go.RowKit Go.St Pa
set_option maxRecDepth 100000
set_option maxHeartbeats 8000000
section
variable {ts : List Lx.Tok} {p q : Ps} {n : Nat}
theorem Pre.less (h : Pre ts (n + 1) p) (k : Step ts (adv p) q) : Pre ts n q :=
 ⟨⟨by have := h.at_.lo; have : p.at_ + 1 ≤ q.at_ := k.le; omega, k.hi⟩, by have := h.deep; have : p.at_ + 1 ≤ q.at_ := k.le; have : q.deep = p.deep := k.deep; omega, by have := h.left; have : p.at_ + 1 ≤ q.at_ := k.le; omega⟩
theorem jnb (ht : ToksOk ts) : ∀ n q, Pre ts n q → RdT ts 145 (qe ts n) q := by
 intro n
 induction n with
 | zero => intro p h; have := h.left; have := h.at_.hi; omega
 | succ n ih =>
  intro p h
  have h2 := ht.len
  have hB := qrz ht (qkm ht n)
  have hbt : ∀ q, Pre ts n q → RdT ts 149 (qv ts (qe ts n)) q := by
   cases n with
   | zero => intro q hq; have := hq.left; have := hq.at_.hi; omega
   | succ m => exact fun q hq => jna ht (qkm ht _) (jbm ht m) ih hq
  refine qci (T := tab Tryz.prog) (C := {}) 600 (fun _ => rfl) Tryz.func145 rfl (by kernel_rfl) (by kernel_rfl) (fun c0 rdb mpb => ?_)
  (repeat' ((conv => whnf); first | refine zA ?_ | refine zO ?_ | refine Ob.auto ?_ | refine zC 600 (jj h.at_ _) ?_ | refine zG 600 (fun hg => jj h.at_ _) ?_ | (refine CallY.con (jj h.at_ _) (by rfl) leA ?_) | (refine CallZ.con (fun hg => jj h.at_ _) qc (by rfl) ?_) | refine zE 600 (jj h.at_ _) ?_ | refine zF 600 (fun hg => jj h.at_ _) ?_ | refine zD 600 ?_ | (apply zB <;> intro hb <;> (try simp [-zd] at hb) <;> try (exfalso; omega)) | refine Ob.intro ?_ ?_))
  ((conv => whnf); refine zT 600 [0] (qvv ht h.at_ qee) qa ?_)
  cases hi : sees ts p qee with
  | true =>
   have e1 : took ts p qee = adv p := if_pos hi
   have e2 : qhb ts p qee = 1 := if_pos hi
   have hs1 := qi ht h.at_ hi
   have h1 := h.step hs1
   have e3 : qe ts (n + 1) p = qdt ts (qv ts (qe ts n)) (tk ts p).pos 1 (adv p) := (if_pos (.inl hi)).trans (by rw [e1, e2])
   rw [e1, e2]
   (repeat' ((conv => whnf); first | refine zA ?_ | refine zO ?_ | refine Ob.auto ?_ | refine zC 600 (qx h1.at_ _) ?_ | refine zG 600 (fun hg => qx h1.at_ _) ?_ | (refine CallY.con (qx h1.at_ _) (by rfl) leA ?_) | (refine CallZ.con (fun hg => qx h1.at_ _) qc (by rfl) ?_) | refine zE 600 (qx h1.at_ _) ?_ | refine zF 600 (fun hg => qx h1.at_ _) ?_ | refine zD 600 ?_ | (apply zB <;> intro hb <;> (try simp [-zd] at hb) <;> try (exfalso; omega)) | refine Ob.intro ?_ ?_))
   cases hr : sees ts (adv p) qdr with
   | true =>
    have e4 : qdt ts (qv ts (qe ts n)) (tk ts p).pos 1 (adv p) = (.mk 8 [qad ts (adv (adv p)), qad ts (qg ts (adv (adv p)))] [1] (tk ts p).pos [], must ts (qg ts (qg ts (adv (adv p)))) qu) := if_pos hr
    rw [e3, e4]
    ((conv => whnf); refine zT 600 [0, 2] (jbu ht h1 hr 1 (tk ts p).pos) (⟨SoLe.refl _, ⟨rfl, Le.refl _, Le.refl _, jq rfl, Le.refl _, Le.refl _, Le.refl _, trivial⟩, trivial⟩) ?_)
    (repeat' ((conv => whnf); first | refine zA ?_ | refine zO ?_ | refine Ob.auto ?_ | refine zD 600 ?_ | (apply zB <;> intro hb <;> (try simp [-zd] at hb) <;> try (exfalso; omega)) | refine Ob.intro ?_ ?_))
    (refine ⟨Le.agg ⟨Le.refl _, ?_, ?_, Le.refl _, Le.refl _, ?_, trivial⟩, qa⟩ <;> first | exact Le.nils _ _ | exact Le.refl _ | exact jq rfl | exact jy rfl | exact qah rfl | exact qaf rfl rfl | exact qag rfl rfl | exact qai rfl rfl | exact qaj rfl rfl rfl | exact qak (fun _ _ => rfl))
   | false =>
    cases hw : sees ts (adv p) qfa with
    | true =>
     have e4 : qdt ts (qv ts (qe ts n)) (tk ts p).pos 1 (adv p) = (.mk 9 [] [1] (tk ts p).pos [(eF ts (adv (adv p))).1], must ts (eF ts (adv (adv p))).2 qu) := (if_neg (by rw [hr]; decide)).trans (if_pos hw)
     rw [e3, e4]
     ((conv => whnf); refine zT 600 [0, 2] (jbv ht h1 hr hw 1 (tk ts p).pos) (⟨SoLe.refl _, ⟨rfl, Le.refl _, Le.refl _, jq rfl, Le.refl _, Le.refl _, Le.refl _, trivial⟩, trivial⟩) ?_)
     (repeat' ((conv => whnf); first | refine zA ?_ | refine zO ?_ | refine Ob.auto ?_ | refine zD 600 ?_ | (apply zB <;> intro hb <;> (try simp [-zd] at hb) <;> try (exfalso; omega)) | refine Ob.intro ?_ ?_))
     (refine ⟨Le.agg ⟨Le.refl _, ?_, ?_, Le.refl _, Le.refl _, ?_, trivial⟩, qa⟩ <;> first | exact Le.nils _ _ | exact Le.refl _ | exact jq rfl | exact jy rfl | exact qah rfl | exact qaf rfl rfl | exact qag rfl rfl | exact qai rfl rfl | exact qaj rfl rfl rfl | exact qak (fun _ _ => rfl))
    | false =>
     have hq : Pre ts n (must ts (adv p) jg) := h.less (ql ht h1.at_ jg)
     have e4 : qdt ts (qv ts (qe ts n)) (tk ts p).pos 1 (adv p) = (.mk 10 [] [1] (tk ts p).pos (orL ts (qv ts (qe ts n)) ts.length [(qv ts (qe ts n) (must ts (adv p) jg)).1] (qv ts (qe ts n) (must ts (adv p) jg)).2).1, (orL ts (qv ts (qe ts n)) ts.length [(qv ts (qe ts n) (must ts (adv p) jg)).1] (qv ts (qe ts n) (must ts (adv p) jg)).2).2) := (if_neg (by rw [hr]; decide)).trans (if_neg (by rw [hw]; decide))
     rw [e3, e4]
     ((conv => whnf); refine zT 600 [0, 2] (jbw ht hB hbt h1 hq hr hw 1 (tk ts p).pos) (⟨SoLe.refl _, ⟨rfl, Le.refl _, Le.refl _, jq rfl, Le.refl _, Le.refl _, Le.refl _, trivial⟩, trivial⟩) ?_)
     (repeat' ((conv => whnf); first | refine zA ?_ | refine zO ?_ | refine Ob.auto ?_ | refine zD 600 ?_ | (apply zB <;> intro hb <;> (try simp [-zd] at hb) <;> try (exfalso; omega)) | refine Ob.intro ?_ ?_))
     (refine ⟨Le.agg ⟨Le.refl _, ?_, ?_, Le.refl _, Le.refl _, ?_, trivial⟩, qa⟩ <;> first | exact Le.nils _ _ | exact Le.refl _ | exact jq rfl | exact jy rfl | exact qah rfl | exact qaf rfl rfl | exact qag rfl rfl | exact qai rfl rfl | exact qaj rfl rfl rfl | exact qak (fun _ _ => rfl))
  | false =>
   have e1 : took ts p qee = p := if_neg (by rw [hi]; decide)
   have e2 : qhb ts p qee = 0 := if_neg (by rw [hi]; decide)
   rw [e1, e2]
   (repeat' ((conv => whnf); first | refine zA ?_ | refine zO ?_ | refine Ob.auto ?_ | refine zC 600 (qx h.at_ _) ?_ | refine zG 600 (fun hg => qx h.at_ _) ?_ | (refine CallY.con (qx h.at_ _) (by rfl) leA ?_) | (refine CallZ.con (fun hg => qx h.at_ _) qc (by rfl) ?_) | refine zE 600 (qx h.at_ _) ?_ | refine zF 600 (fun hg => qx h.at_ _) ?_ | refine zD 600 ?_ | (apply zB <;> intro hb <;> (try simp [-zd] at hb) <;> try (exfalso; omega)) | refine Ob.intro ?_ ?_))
   ·have hcond : sees ts p qee = true ∨ sees ts p qdr = true ∨ sees ts p qfa = true ∨ sees ts p jg = true := by
     rcases hb with (hb | hb) | hb
     ·exact .inr (.inl hb)
     ·exact .inr (.inr (.inl hb))
     ·exact .inr (.inr (.inr hb))
    have e3 : qe ts (n + 1) p = qdt ts (qv ts (qe ts n)) (tk ts p).pos 0 p := (if_pos hcond).trans (by rw [e1, e2])
    cases hr : sees ts p qdr with
    | true =>
     have e4 : qdt ts (qv ts (qe ts n)) (tk ts p).pos 0 p = (.mk 8 [qad ts (adv p), qad ts (qg ts (adv p))] [0] (tk ts p).pos [], must ts (qg ts (qg ts (adv p))) qu) := if_pos hr
     rw [e3, e4]
     ((conv => whnf); refine zT 600 [0, 2] (jbu ht h hr 0 (tk ts p).pos) (⟨SoLe.refl _, ⟨rfl, Le.refl _, Le.refl _, jq rfl, Le.refl _, Le.refl _, Le.refl _, trivial⟩, trivial⟩) ?_)
     (repeat' ((conv => whnf); first | refine zA ?_ | refine zO ?_ | refine Ob.auto ?_ | refine zD 600 ?_ | (apply zB <;> intro hb <;> (try simp [-zd] at hb) <;> try (exfalso; omega)) | refine Ob.intro ?_ ?_))
     (refine ⟨Le.agg ⟨Le.refl _, ?_, ?_, Le.refl _, Le.refl _, ?_, trivial⟩, qa⟩ <;> first | exact Le.nils _ _ | exact Le.refl _ | exact jq rfl | exact jy rfl | exact qah rfl | exact qaf rfl rfl | exact qag rfl rfl | exact qai rfl rfl | exact qaj rfl rfl rfl | exact qak (fun _ _ => rfl))
    | false =>
     cases hw : sees ts p qfa with
     | true =>
      have e4 : qdt ts (qv ts (qe ts n)) (tk ts p).pos 0 p = (.mk 9 [] [0] (tk ts p).pos [(eF ts (adv p)).1], must ts (eF ts (adv p)).2 qu) := (if_neg (by rw [hr]; decide)).trans (if_pos hw)
      rw [e3, e4]
      ((conv => whnf); refine zT 600 [0, 2] (jbv ht h hr hw 0 (tk ts p).pos) (⟨SoLe.refl _, ⟨rfl, Le.refl _, Le.refl _, jq rfl, Le.refl _, Le.refl _, Le.refl _, trivial⟩, trivial⟩) ?_)
      (repeat' ((conv => whnf); first | refine zA ?_ | refine zO ?_ | refine Ob.auto ?_ | refine zD 600 ?_ | (apply zB <;> intro hb <;> (try simp [-zd] at hb) <;> try (exfalso; omega)) | refine Ob.intro ?_ ?_))
      (refine ⟨Le.agg ⟨Le.refl _, ?_, ?_, Le.refl _, Le.refl _, ?_, trivial⟩, qa⟩ <;> first | exact Le.nils _ _ | exact Le.refl _ | exact jq rfl | exact jy rfl | exact qah rfl | exact qaf rfl rfl | exact qag rfl rfl | exact qai rfl rfl | exact qaj rfl rfl rfl | exact qak (fun _ _ => rfl))
     | false =>
      have hch : sees ts p jg = true := by rcases hcond with hc | hc | hc | hc <;> simp_all
      have hq : Pre ts n (must ts p jg) := by rw [show must ts p jg = adv p from if_pos hch]; exact h.less (((qi ht h.at_ hch).ok h.at_).refl)
      have e4 : qdt ts (qv ts (qe ts n)) (tk ts p).pos 0 p = (.mk 10 [] [0] (tk ts p).pos (orL ts (qv ts (qe ts n)) ts.length [(qv ts (qe ts n) (must ts p jg)).1] (qv ts (qe ts n) (must ts p jg)).2).1, (orL ts (qv ts (qe ts n)) ts.length [(qv ts (qe ts n) (must ts p jg)).1] (qv ts (qe ts n) (must ts p jg)).2).2) := (if_neg (by rw [hr]; decide)).trans (if_neg (by rw [hw]; decide))
      rw [e3, e4]
      ((conv => whnf); refine zT 600 [0, 2] (jbw ht hB hbt h hq hr hw 0 (tk ts p).pos) (⟨SoLe.refl _, ⟨rfl, Le.refl _, Le.refl _, jq rfl, Le.refl _, Le.refl _, Le.refl _, trivial⟩, trivial⟩) ?_)
      (repeat' ((conv => whnf); first | refine zA ?_ | refine zO ?_ | refine Ob.auto ?_ | refine zD 600 ?_ | (apply zB <;> intro hb <;> (try simp [-zd] at hb) <;> try (exfalso; omega)) | refine Ob.intro ?_ ?_))
      (refine ⟨Le.agg ⟨Le.refl _, ?_, ?_, Le.refl _, Le.refl _, ?_, trivial⟩, qa⟩ <;> first | exact Le.nils _ _ | exact Le.refl _ | exact jq rfl | exact jy rfl | exact qah rfl | exact qaf rfl rfl | exact qag rfl rfl | exact qai rfl rfl | exact qaj rfl rfl rfl | exact qak (fun _ _ => rfl))
   have hc0 : ¬ (sees ts p qee = true ∨ sees ts p qdr = true ∨ sees ts p qfa = true ∨ sees ts p jg = true) := by
    rw [hi, hb.1.1, hb.1.2, hb.2]; decide
   ((conv => whnf); refine zT 600 [0] (qav ht h.at_ qow) qa ?_)
   cases hkSend : sees ts p qow with
   | true =>
    have tkSend : took ts p qow = adv p := if_pos hkSend
    have hs1 := qi ht h.at_ hkSend
    have h1 : Pre ts n (adv p) := h.less ((hs1.ok h.at_).refl)
    rw [tkSend]
    (repeat' ((conv => whnf); first | refine zA ?_ | refine zO ?_ | refine Ob.auto ?_ | refine zD 600 ?_ | (apply zB <;> intro hb <;> (try simp [-zd] at hb) <;> try (exfalso; omega)) | refine Ob.intro ?_ ?_))
    have e5 : qe ts (n + 1) p = (.mk 7 [qad ts (adv p)] [] (tk ts p).pos [(eF ts (qg ts (adv p))).1], must ts (eF ts (qg ts (adv p))).2 qu) := ((if_neg hc0)).trans (if_pos hkSend)
    rw [e5]
    have h2 := h1.step (qas ht h1.at_)
    have h3 := h2.step (qbi ht _ h2.at_)
    (repeat' ((conv => whnf); first | refine zA ?_ | refine zO ?_ | refine Ob.auto ?_ | refine zD 600 ?_ | (refine jb (fun _ => rfl) (by kernel_rfl) 600 ?_) | (apply zB <;> intro hb <;> (try simp [-zd] at hb) <;> try (exfalso; omega)) | refine Ob.intro ?_ ?_))
    ((conv => whnf); refine CallY.trip [0] (qie ht h1.at_) (by kernel_rfl) leA qa (by exact qb rfl) (by exact qb rfl) ?_)
    (repeat' ((conv => whnf); first | refine zO ?_ | refine Ob.auto ?_ | refine zD 600 ?_ | (refine jb (fun _ => rfl) (by kernel_rfl) 600 ?_) | (apply zB <;> intro hb <;> (try simp [-zd] at hb) <;> try (exfalso; omega)) | refine Ob.intro ?_ ?_))
    ((conv => whnf); refine AltG.far 9 [2] (by kernel_rfl) farA (EndG.go ?_))
    ((conv => whnf); refine qbh (fun _ => rfl) (by kernel_rfl) 600 [.turn [0] [.ptr 0 0] [pso ts (qg ts (adv p))] (eF ts (qg ts (adv p))).1.av [(0, pso ts (eF ts (qg ts (adv p))).2)]] (by kernel_rfl) ?_)
    (repeat' ((conv => whnf); first | refine zA ?_ | refine zO ?_ | refine Ob.auto ?_ | refine zI ?_ | refine zD 600 ?_ | (apply zB <;> intro hb <;> (try simp [-zd] at hb) <;> try (exfalso; omega)) | refine Ob.intro ?_ ?_))
    ·exact ⟨e_rd ht h2.full, by kernel_rfl, leA, qa, by exact qb rfl, by exact qb rfl⟩
    (repeat' ((conv => whnf); first | refine zA ?_ | refine zO ?_ | refine Ob.auto ?_ | refine zD 600 ?_ | (apply zB <;> intro hb <;> (try simp [-zd] at hb) <;> try (exfalso; omega)) | refine Ob.intro ?_ ?_))
    ((conv => whnf); refine zT 600 [0] (qaz ht h3.at_ qu) qa ?_)
    (repeat' ((conv => whnf); first | refine zA ?_ | refine zO ?_ | refine Ob.auto ?_ | refine zD 600 ?_ | (apply zB <;> intro hb <;> (try simp [-zd] at hb) <;> try (exfalso; omega)) | refine Ob.intro ?_ ?_))
    (refine ⟨Le.agg ⟨Le.refl _, ?_, ?_, Le.refl _, Le.refl _, ?_, trivial⟩, qa⟩ <;> first | exact Le.nils _ _ | exact Le.refl _ | exact jq rfl | exact jy rfl | exact qah rfl | exact qaf rfl rfl | exact qag rfl rfl | exact qai rfl rfl | exact qaj rfl rfl rfl | exact qak (fun _ _ => rfl))
   | false =>
    have tkSend : took ts p qow = p := if_neg (by rw [hkSend]; decide)
    rw [tkSend]
    (repeat' ((conv => whnf); first | refine zA ?_ | refine zO ?_ | refine Ob.auto ?_ | refine zD 600 ?_ | (apply zB <;> intro hb <;> (try simp [-zd] at hb) <;> try (exfalso; omega)) | refine Ob.intro ?_ ?_))
    ((conv => whnf); refine zT 600 [0] (qav ht h.at_ kIf) qa ?_)
    cases hkIf : sees ts p kIf with
    | true =>
     have tkIf : took ts p kIf = adv p := if_pos hkIf
     have hs1 := qi ht h.at_ hkIf
     have h1 : Pre ts n (adv p) := h.less ((hs1.ok h.at_).refl)
     rw [tkIf]
     (repeat' ((conv => whnf); first | refine zA ?_ | refine zO ?_ | refine Ob.auto ?_ | refine zD 600 ?_ | (apply zB <;> intro hb <;> (try simp [-zd] at hb) <;> try (exfalso; omega)) | refine Ob.intro ?_ ?_))
     have h2 := h1.step (qbi ht _ h1.at_)
     have h3 := h2.step (hB _ h2.at_)
     ((conv => whnf); refine qbh (fun _ => rfl) (by kernel_rfl) 600 [.turn [0] [.ptr 0 0] [pso ts (adv p)] (eF ts (adv p)).1.av [(0, pso ts (eF ts (adv p)).2)]] (by kernel_rfl) ?_)
     (repeat' ((conv => whnf); first | refine zA ?_ | refine zO ?_ | refine Ob.auto ?_ | refine zI ?_ | refine zD 600 ?_ | (apply zB <;> intro hb <;> (try simp [-zd] at hb) <;> try (exfalso; omega)) | refine Ob.intro ?_ ?_))
     ·exact ⟨e_rd ht h1.full, by kernel_rfl, leA, qa, by exact qb rfl, by exact qb rfl⟩
     ((conv => whnf); refine qbh (fun _ => rfl) (by kernel_rfl) 600 [.turn [0] [.ptr 0 0] [pso ts (eF ts (adv p)).2] (qv ts (qe ts n) (eF ts (adv p)).2).1.av [(0, pso ts (qv ts (qe ts n) (eF ts (adv p)).2).2)]] (by kernel_rfl) ?_)
     (repeat' ((conv => whnf); first | refine zA ?_ | refine zO ?_ | refine Ob.auto ?_ | refine zI ?_ | refine zD 600 ?_ | (apply zB <;> intro hb <;> (try simp [-zd] at hb) <;> try (exfalso; omega)) | refine Ob.intro ?_ ?_))
     ·exact ⟨hbt _ h2, by kernel_rfl, leA, qa, by exact qb rfl, by exact qb rfl⟩
     (repeat' ((conv => whnf); first | refine zA ?_ | refine zO ?_ | refine Ob.auto ?_ | refine zD 600 ?_ | (apply zB <;> intro hb <;> (try simp [-zd] at hb) <;> try (exfalso; omega)) | refine Ob.intro ?_ ?_))
     ((conv => whnf); refine zT 600 [0] (qav ht h3.at_ qox) qa ?_)
     cases hel : sees ts (qv ts (qe ts n) (eF ts (adv p)).2).2 qox with
     | true =>
      have tel : took ts (qv ts (qe ts n) (eF ts (adv p)).2).2 qox = adv (qv ts (qe ts n) (eF ts (adv p)).2).2 := if_pos hel
      have h4 := h3.step (qi ht h3.at_ hel)
      have e5 : qe ts (n + 1) p = (.mk 11 [] [] (tk ts p).pos [(eF ts (adv p)).1, (qv ts (qe ts n) (eF ts (adv p)).2).1, (qv ts (qe ts n) (adv (qv ts (qe ts n) (eF ts (adv p)).2).2)).1], (qv ts (qe ts n) (adv (qv ts (qe ts n) (eF ts (adv p)).2).2)).2) := (((if_neg hc0)).trans (if_neg (by rw [hkSend]; decide))).trans ((if_pos hkIf).trans (if_pos hel))
      rw [tel, e5]
      (repeat' ((conv => whnf); first | refine zA ?_ | refine zO ?_ | refine Ob.auto ?_ | refine zD 600 ?_ | (apply zB <;> intro hb <;> (try simp [-zd] at hb) <;> try (exfalso; omega)) | refine Ob.intro ?_ ?_))
      ((conv => whnf); refine qbh (fun _ => rfl) (by kernel_rfl) 600 [.turn [0] [.ptr 0 0] [pso ts (adv (qv ts (qe ts n) (eF ts (adv p)).2).2)] (qv ts (qe ts n) (adv (qv ts (qe ts n) (eF ts (adv p)).2).2)).1.av [(0, pso ts (qv ts (qe ts n) (adv (qv ts (qe ts n) (eF ts (adv p)).2).2)).2)]] (by kernel_rfl) ?_)
      (repeat' ((conv => whnf); first | refine zA ?_ | refine zO ?_ | refine Ob.auto ?_ | refine zI ?_ | refine zD 600 ?_ | (apply zB <;> intro hb <;> (try simp [-zd] at hb) <;> try (exfalso; omega)) | refine Ob.intro ?_ ?_))
      ·exact ⟨hbt _ h4, by kernel_rfl, leA, qa, by exact qb rfl, by exact qb rfl⟩
      (repeat' ((conv => whnf); first | refine zA ?_ | refine zO ?_ | refine Ob.auto ?_ | refine zD 600 ?_ | (apply zB <;> intro hb <;> (try simp [-zd] at hb) <;> try (exfalso; omega)) | refine Ob.intro ?_ ?_))
      (refine ⟨Le.agg ⟨Le.refl _, ?_, ?_, Le.refl _, Le.refl _, ?_, trivial⟩, qa⟩ <;> first | exact Le.nils _ _ | exact Le.refl _ | exact jq rfl | exact jy rfl | exact qah rfl | exact qaf rfl rfl | exact qag rfl rfl | exact qai rfl rfl | exact qaj rfl rfl rfl | exact qak (fun _ _ => rfl))
     | false =>
      have tel : took ts (qv ts (qe ts n) (eF ts (adv p)).2).2 qox = (qv ts (qe ts n) (eF ts (adv p)).2).2 := if_neg (by rw [hel]; decide)
      have e5 : qe ts (n + 1) p = (.mk 11 [] [] (tk ts p).pos [(eF ts (adv p)).1, (qv ts (qe ts n) (eF ts (adv p)).2).1], (qv ts (qe ts n) (eF ts (adv p)).2).2) := (((if_neg hc0)).trans (if_neg (by rw [hkSend]; decide))).trans ((if_pos hkIf).trans (if_neg (by rw [hel]; decide)))
      rw [tel, e5]
      (repeat' ((conv => whnf); first | refine zA ?_ | refine zO ?_ | refine Ob.auto ?_ | refine zD 600 ?_ | (apply zB <;> intro hb <;> (try simp [-zd] at hb) <;> try (exfalso; omega)) | refine Ob.intro ?_ ?_))
      (refine ⟨Le.agg ⟨Le.refl _, ?_, ?_, Le.refl _, Le.refl _, ?_, trivial⟩, qa⟩ <;> first | exact Le.nils _ _ | exact Le.refl _ | exact jq rfl | exact jy rfl | exact qah rfl | exact qaf rfl rfl | exact qag rfl rfl | exact qai rfl rfl | exact qaj rfl rfl rfl | exact qak (fun _ _ => rfl))
    | false =>
     have tkIf : took ts p kIf = p := if_neg (by rw [hkIf]; decide)
     rw [tkIf]
     (repeat' ((conv => whnf); first | refine zA ?_ | refine zO ?_ | refine Ob.auto ?_ | refine zD 600 ?_ | (apply zB <;> intro hb <;> (try simp [-zd] at hb) <;> try (exfalso; omega)) | refine Ob.intro ?_ ?_))
     ((conv => whnf); refine zT 600 [0] (qav ht h.at_ qoy) qa ?_)
     cases hkWhile : sees ts p qoy with
     | true =>
      have tkWhile : took ts p qoy = adv p := if_pos hkWhile
      have hs1 := qi ht h.at_ hkWhile
      have h1 : Pre ts n (adv p) := h.less ((hs1.ok h.at_).refl)
      rw [tkWhile]
      (repeat' ((conv => whnf); first | refine zA ?_ | refine zO ?_ | refine Ob.auto ?_ | refine zD 600 ?_ | (apply zB <;> intro hb <;> (try simp [-zd] at hb) <;> try (exfalso; omega)) | refine Ob.intro ?_ ?_))
      have e5 : qe ts (n + 1) p = (.mk 12 [] [] (tk ts p).pos [(eF ts (adv p)).1, (qv ts (qe ts n) (eF ts (adv p)).2).1], (qv ts (qe ts n) (eF ts (adv p)).2).2) := ((((if_neg hc0)).trans (if_neg (by rw [hkSend]; decide))).trans (if_neg (by rw [hkIf]; decide))).trans (if_pos hkWhile)
      rw [e5]
      have h2 := h1.step (qbi ht _ h1.at_)
      ((conv => whnf); refine qbh (fun _ => rfl) (by kernel_rfl) 600 [.turn [0] [.ptr 0 0] [pso ts (adv p)] (eF ts (adv p)).1.av [(0, pso ts (eF ts (adv p)).2)]] (by kernel_rfl) ?_)
      (repeat' ((conv => whnf); first | refine zA ?_ | refine zO ?_ | refine Ob.auto ?_ | refine zI ?_ | refine zD 600 ?_ | (apply zB <;> intro hb <;> (try simp [-zd] at hb) <;> try (exfalso; omega)) | refine Ob.intro ?_ ?_))
      ·exact ⟨e_rd ht h1.full, by kernel_rfl, leA, qa, by exact qb rfl, by exact qb rfl⟩
      ((conv => whnf); refine qbh (fun _ => rfl) (by kernel_rfl) 600 [.turn [0] [.ptr 0 0] [pso ts (eF ts (adv p)).2] (qv ts (qe ts n) (eF ts (adv p)).2).1.av [(0, pso ts (qv ts (qe ts n) (eF ts (adv p)).2).2)]] (by kernel_rfl) ?_)
      (repeat' ((conv => whnf); first | refine zA ?_ | refine zO ?_ | refine Ob.auto ?_ | refine zI ?_ | refine zD 600 ?_ | (apply zB <;> intro hb <;> (try simp [-zd] at hb) <;> try (exfalso; omega)) | refine Ob.intro ?_ ?_))
      ·exact ⟨hbt _ h2, by kernel_rfl, leA, qa, by exact qb rfl, by exact qb rfl⟩
      (repeat' ((conv => whnf); first | refine zA ?_ | refine zO ?_ | refine Ob.auto ?_ | refine zD 600 ?_ | (apply zB <;> intro hb <;> (try simp [-zd] at hb) <;> try (exfalso; omega)) | refine Ob.intro ?_ ?_))
      (refine ⟨Le.agg ⟨Le.refl _, ?_, ?_, Le.refl _, Le.refl _, ?_, trivial⟩, qa⟩ <;> first | exact Le.nils _ _ | exact Le.refl _ | exact jq rfl | exact jy rfl | exact qah rfl | exact qaf rfl rfl | exact qag rfl rfl | exact qai rfl rfl | exact qaj rfl rfl rfl | exact qak (fun _ _ => rfl))
     | false =>
      have tkWhile : took ts p qoy = p := if_neg (by rw [hkWhile]; decide)
      rw [tkWhile]
      (repeat' ((conv => whnf); first | refine zA ?_ | refine zO ?_ | refine Ob.auto ?_ | refine zD 600 ?_ | (apply zB <;> intro hb <;> (try simp [-zd] at hb) <;> try (exfalso; omega)) | refine Ob.intro ?_ ?_))
      ((conv => whnf); refine zT 600 [0] (qav ht h.at_ qoz) qa ?_)
      cases hkAtomic : sees ts p qoz with
      | true =>
       have tkAtomic : took ts p qoz = adv p := if_pos hkAtomic
       have hs1 := qi ht h.at_ hkAtomic
       have h1 : Pre ts n (adv p) := h.less ((hs1.ok h.at_).refl)
       rw [tkAtomic]
       (repeat' ((conv => whnf); first | refine zA ?_ | refine zO ?_ | refine Ob.auto ?_ | refine zD 600 ?_ | (apply zB <;> intro hb <;> (try simp [-zd] at hb) <;> try (exfalso; omega)) | refine Ob.intro ?_ ?_))
       have e5 : qe ts (n + 1) p = (.mk 13 [] [] (tk ts p).pos [(qv ts (qe ts n) (adv p)).1], (qv ts (qe ts n) (adv p)).2) := (((((if_neg hc0)).trans (if_neg (by rw [hkSend]; decide))).trans (if_neg (by rw [hkIf]; decide))).trans (if_neg (by rw [hkWhile]; decide))).trans (if_pos hkAtomic)
       rw [e5]
       ((conv => whnf); refine qbh (fun _ => rfl) (by kernel_rfl) 600 [.turn [0] [.ptr 0 0] [pso ts (adv p)] (qv ts (qe ts n) (adv p)).1.av [(0, pso ts (qv ts (qe ts n) (adv p)).2)]] (by kernel_rfl) ?_)
       (repeat' ((conv => whnf); first | refine zA ?_ | refine zO ?_ | refine Ob.auto ?_ | refine zI ?_ | refine zD 600 ?_ | (apply zB <;> intro hb <;> (try simp [-zd] at hb) <;> try (exfalso; omega)) | refine Ob.intro ?_ ?_))
       ·exact ⟨hbt _ h1, by kernel_rfl, leA, qa, by exact qb rfl, by exact qb rfl⟩
       (repeat' ((conv => whnf); first | refine zA ?_ | refine zO ?_ | refine Ob.auto ?_ | refine zD 600 ?_ | (apply zB <;> intro hb <;> (try simp [-zd] at hb) <;> try (exfalso; omega)) | refine Ob.intro ?_ ?_))
       (refine ⟨Le.agg ⟨Le.refl _, ?_, ?_, Le.refl _, Le.refl _, ?_, trivial⟩, qa⟩ <;> first | exact Le.nils _ _ | exact Le.refl _ | exact jq rfl | exact jy rfl | exact qah rfl | exact qaf rfl rfl | exact qag rfl rfl | exact qai rfl rfl | exact qaj rfl rfl rfl | exact qak (fun _ _ => rfl))
      | false =>
       have tkAtomic : took ts p qoz = p := if_neg (by rw [hkAtomic]; decide)
       rw [tkAtomic]
       (repeat' ((conv => whnf); first | refine zA ?_ | refine zO ?_ | refine Ob.auto ?_ | refine zD 600 ?_ | (apply zB <;> intro hb <;> (try simp [-zd] at hb) <;> try (exfalso; omega)) | refine Ob.intro ?_ ?_))
       ((conv => whnf); refine zT 600 [0] (qav ht h.at_ qpa) qa ?_)
       cases hkSkip : sees ts p qpa with
       | true =>
        have tkSkip : took ts p qpa = adv p := if_pos hkSkip
        have hs1 := qi ht h.at_ hkSkip
        have h1 : Pre ts n (adv p) := h.less ((hs1.ok h.at_).refl)
        rw [tkSkip]
        (repeat' ((conv => whnf); first | refine zA ?_ | refine zO ?_ | refine Ob.auto ?_ | refine zD 600 ?_ | (apply zB <;> intro hb <;> (try simp [-zd] at hb) <;> try (exfalso; omega)) | refine Ob.intro ?_ ?_))
        have e5 : qe ts (n + 1) p = (.mk 14 [] [] (tk ts p).pos [], must ts (adv p) qu) := ((((((if_neg hc0)).trans (if_neg (by rw [hkSend]; decide))).trans (if_neg (by rw [hkIf]; decide))).trans (if_neg (by rw [hkWhile]; decide))).trans (if_neg (by rw [hkAtomic]; decide))).trans (if_pos hkSkip)
        rw [e5]
        (repeat' ((conv => whnf); first | refine zA ?_ | refine zO ?_ | refine Ob.auto ?_ | refine zD 600 ?_ | (apply zB <;> intro hb <;> (try simp [-zd] at hb) <;> try (exfalso; omega)) | refine Ob.intro ?_ ?_))
        ((conv => whnf); refine zT 600 [0] (qaz ht h1.at_ qu) qa ?_)
        (repeat' ((conv => whnf); first | refine zA ?_ | refine zO ?_ | refine Ob.auto ?_ | refine zD 600 ?_ | (apply zB <;> intro hb <;> (try simp [-zd] at hb) <;> try (exfalso; omega)) | refine Ob.intro ?_ ?_))
        (refine ⟨Le.agg ⟨Le.refl _, ?_, ?_, Le.refl _, Le.refl _, ?_, trivial⟩, qa⟩ <;> first | exact Le.nils _ _ | exact Le.refl _ | exact jq rfl | exact jy rfl | exact qah rfl | exact qaf rfl rfl | exact qag rfl rfl | exact qai rfl rfl | exact qaj rfl rfl rfl | exact qak (fun _ _ => rfl))
       | false =>
        have tkSkip : took ts p qpa = p := if_neg (by rw [hkSkip]; decide)
        rw [tkSkip]
        (repeat' ((conv => whnf); first | refine zA ?_ | refine zO ?_ | refine Ob.auto ?_ | refine zD 600 ?_ | (apply zB <;> intro hb <;> (try simp [-zd] at hb) <;> try (exfalso; omega)) | refine Ob.intro ?_ ?_))
        ((conv => whnf); refine zT 600 [0] (qav ht h.at_ qpb) qa ?_)
        cases hkStop : sees ts p qpb with
        | true =>
         have tkStop : took ts p qpb = adv p := if_pos hkStop
         have hs1 := qi ht h.at_ hkStop
         have h1 : Pre ts n (adv p) := h.less ((hs1.ok h.at_).refl)
         rw [tkStop]
         (repeat' ((conv => whnf); first | refine zA ?_ | refine zO ?_ | refine Ob.auto ?_ | refine zD 600 ?_ | (apply zB <;> intro hb <;> (try simp [-zd] at hb) <;> try (exfalso; omega)) | refine Ob.intro ?_ ?_))
         have e5 : qe ts (n + 1) p = (.mk 15 [] [] (tk ts p).pos [], must ts (adv p) qu) := (((((((if_neg hc0)).trans (if_neg (by rw [hkSend]; decide))).trans (if_neg (by rw [hkIf]; decide))).trans (if_neg (by rw [hkWhile]; decide))).trans (if_neg (by rw [hkAtomic]; decide))).trans (if_neg (by rw [hkSkip]; decide))).trans (if_pos hkStop)
         rw [e5]
         (repeat' ((conv => whnf); first | refine zA ?_ | refine zO ?_ | refine Ob.auto ?_ | refine zD 600 ?_ | (apply zB <;> intro hb <;> (try simp [-zd] at hb) <;> try (exfalso; omega)) | refine Ob.intro ?_ ?_))
         ((conv => whnf); refine zT 600 [0] (qaz ht h1.at_ qu) qa ?_)
         (repeat' ((conv => whnf); first | refine zA ?_ | refine zO ?_ | refine Ob.auto ?_ | refine zD 600 ?_ | (apply zB <;> intro hb <;> (try simp [-zd] at hb) <;> try (exfalso; omega)) | refine Ob.intro ?_ ?_))
         (refine ⟨Le.agg ⟨Le.refl _, ?_, ?_, Le.refl _, Le.refl _, ?_, trivial⟩, qa⟩ <;> first | exact Le.nils _ _ | exact Le.refl _ | exact jq rfl | exact jy rfl | exact qah rfl | exact qaf rfl rfl | exact qag rfl rfl | exact qai rfl rfl | exact qaj rfl rfl rfl | exact qak (fun _ _ => rfl))
        | false =>
         have tkStop : took ts p qpb = p := if_neg (by rw [hkStop]; decide)
         rw [tkStop]
         (repeat' ((conv => whnf); first | refine zA ?_ | refine zO ?_ | refine Ob.auto ?_ | refine zD 600 ?_ | (apply zB <;> intro hb <;> (try simp [-zd] at hb) <;> try (exfalso; omega)) | refine Ob.intro ?_ ?_))
         have e5 : qe ts (n + 1) p = (.mk 6 [qad ts p] [] (tk ts p).pos [(eF ts (must ts (qg ts p) sEq)).1], must ts (eF ts (must ts (qg ts p) sEq)).2 qu) := (((((((if_neg hc0)).trans (if_neg (by rw [hkSend]; decide))).trans (if_neg (by rw [hkIf]; decide))).trans (if_neg (by rw [hkWhile]; decide))).trans (if_neg (by rw [hkAtomic]; decide))).trans (if_neg (by rw [hkSkip]; decide))).trans (if_neg (by rw [hkStop]; decide))
         have h1 := h.step (qas ht h.at_)
         have h2 := h1.step (ql ht h1.at_ sEq)
         have h3 := h2.step (qbi ht _ h2.at_)
         rw [e5]
         (repeat' ((conv => whnf); first | refine zA ?_ | refine zO ?_ | refine Ob.auto ?_ | refine zD 600 ?_ | (refine jb (fun _ => rfl) (by kernel_rfl) 600 ?_) | (apply zB <;> intro hb <;> (try simp [-zd] at hb) <;> try (exfalso; omega)) | refine Ob.intro ?_ ?_))
         ((conv => whnf); refine CallY.trip [0] (qie ht h.at_) (by kernel_rfl) leA qa (by exact qb rfl) (by exact qb rfl) ?_)
         (repeat' ((conv => whnf); first | refine zO ?_ | refine Ob.auto ?_ | refine zD 600 ?_ | (refine jb (fun _ => rfl) (by kernel_rfl) 600 ?_) | (apply zB <;> intro hb <;> (try simp [-zd] at hb) <;> try (exfalso; omega)) | refine Ob.intro ?_ ?_))
         ((conv => whnf); refine AltG.far 9 [2] (by kernel_rfl) farA (EndG.go ?_))
         (repeat' ((conv => whnf); first | refine zA ?_ | refine zO ?_ | refine Ob.auto ?_ | refine zD 600 ?_ | (apply zB <;> intro hb <;> (try simp [-zd] at hb) <;> try (exfalso; omega)) | refine Ob.intro ?_ ?_))
         ((conv => whnf); refine zT 600 [0] (qaz ht h1.at_ sEq) qa ?_)
         (repeat' ((conv => whnf); first | refine zA ?_ | refine zO ?_ | refine Ob.auto ?_ | refine zD 600 ?_ | (apply zB <;> intro hb <;> (try simp [-zd] at hb) <;> try (exfalso; omega)) | refine Ob.intro ?_ ?_))
         ((conv => whnf); refine qbh (fun _ => rfl) (by kernel_rfl) 600 [.turn [0] [.ptr 0 0] [pso ts (must ts (qg ts p) sEq)] (eF ts (must ts (qg ts p) sEq)).1.av [(0, pso ts (eF ts (must ts (qg ts p) sEq)).2)]] (by kernel_rfl) ?_)
         (repeat' ((conv => whnf); first | refine zA ?_ | refine zO ?_ | refine Ob.auto ?_ | refine zI ?_ | refine zD 600 ?_ | (apply zB <;> intro hb <;> (try simp [-zd] at hb) <;> try (exfalso; omega)) | refine Ob.intro ?_ ?_))
         ·exact ⟨e_rd ht h2.full, by kernel_rfl, leA, qa, by exact qb rfl, by exact qb rfl⟩
         (repeat' ((conv => whnf); first | refine zA ?_ | refine zO ?_ | refine Ob.auto ?_ | refine zD 600 ?_ | (apply zB <;> intro hb <;> (try simp [-zd] at hb) <;> try (exfalso; omega)) | refine Ob.intro ?_ ?_))
         ((conv => whnf); refine zT 600 [0] (qaz ht h3.at_ qu) qa ?_)
         (repeat' ((conv => whnf); first | refine zA ?_ | refine zO ?_ | refine Ob.auto ?_ | refine zD 600 ?_ | (apply zB <;> intro hb <;> (try simp [-zd] at hb) <;> try (exfalso; omega)) | refine Ob.intro ?_ ?_))
         (refine ⟨Le.agg ⟨Le.refl _, ?_, ?_, Le.refl _, Le.refl _, ?_, trivial⟩, qa⟩ <;> first | exact Le.nils _ _ | exact Le.refl _ | exact jq rfl | exact jy rfl | exact qah rfl | exact qaf rfl rfl | exact qag rfl rfl | exact qai rfl rfl | exact qaj rfl rfl rfl | exact qak (fun _ _ => rfl))
theorem s_rd (ht : ToksOk ts) (h : Pre ts n p) : RdT ts 145 (sF ts) p := jnb ht _ p h.full
end
end Go.Proofs.YtdoaagphhjggbaaGreat
