/- Contracts of the document's parser: expressions. -/
import Derived.Test.YtdoaagphhjggbaaQPa1
import Derived.Test.YtdoaagphhjggbaaQ2
namespace Go.Proofs.Ytdoaagphhjggbaa
open Go Go.Sx Go.RowKit Go.St Pa
set_option maxRecDepth 100000
set_option maxHeartbeats 4000000

structure Pre (ts : List Lx.Tok) (n : Nat) (p : Ps) : Prop where
 at_ : AtOk ts p
 deep : 0 ≤ p.deep ∧ p.deep ≤ p.at_ + 1
 left : (ts.length : Int) - p.at_ ≤ n

section
variable {ts : List Lx.Tok} {p q : Ps} {n : Nat}

theorem Pre.step (h : Pre ts n p) (k : Step ts p q) : Pre ts n q :=
 ⟨k.ok h.at_, by have := h.deep; have := k.deep; have := k.le; omega, by have := h.left; have := k.le; omega⟩

abbrev RdT (ts : List Lx.Tok) (f : FuncId) (F : Ps → Tr × Ps) (p : Ps) : Prop := Trip Try.prog f [.ptr 0 0] [pso ts p] (F p).1.av [(0, pso ts (F p).2)] 1

theorem jla (a b : Tr) : Le (.slc 6 2 (chop 6 (a.cells ++ b.cells))) (qlg [a, b]) := Le.slc rfl (fun i hi => by
 match i, hi with
 | 0, _ => exact (Tr.cellsL_get [a, b] 0 (Nat.zero_lt_succ _)).symm
 | 1, _ => exact (Tr.cellsL_get [a, b] 1 (Nat.lt_succ_self _)).symm)

theorem qhk (sg : Int) (a b : Tr) : Con Try.prog 112 [iv sg, a.av, b.av] (binT sg a b).av := by
 refine qi (T := tab Try.prog) (C := {}) 300 (fun _ => rfl) Try.func112 rfl (by kernel_rfl) (by kernel_rfl) (fun c0 rdb => ?_)
 (repeat' ((conv => whnf); first | refine zA ?_ | refine zO ?_ | refine Ob.auto ?_ | refine zD 300 ?_ | (apply zB <;> intro hb <;> (try simp [-List.getD_eq_getElem?_getD] at hb) <;> try (exfalso; omega)) | refine Ob.intro ?_ ?_))
 refine Le.agg ⟨Le.refl _, Le.nils _ _, Le.slc rfl (fun i hi => ?_), Le.refl _, Le.refl _, jla a b, trivial⟩
 obtain rfl : i = 0 := by omega
 rfl

theorem jlb (ht : ToksOk ts) {part : Ps → Tr × Ps} (hr : Runs ts part) (hp : ∀ q, Pre ts n q → RdT ts 124 part q) : ∀ q, Pre ts n q → RdT ts 123 (qch ts part) q := by
 intro p h
 have h2 := ht.len
 have hps := hp
 have hrs := hr
 have hs := hrs p h.at_
 have hq := h.step hs
 refine qcg (T := tab Try.prog) (C := {}) 300 (fun _ => rfl) Try.func123 rfl (by kernel_rfl) (by kernel_rfl) (fun c0 rdb mpb => ?_)
 (repeat' ((conv => whnf); first | refine zA ?_ | refine zO ?_ | refine Ob.auto ?_ | refine zD 300 ?_ | (apply zB <;> intro hb <;> (try simp [-List.getD_eq_getElem?_getD] at hb) <;> try (exfalso; omega)) | refine Ob.intro ?_ ?_))
 ((conv => whnf); refine zT 300 [0] (hps p h) qa ?_)
 (repeat' ((conv => whnf); first | refine zA ?_ | refine zO ?_ | refine Ob.auto ?_ | refine zD 300 ?_ | (apply zB <;> intro hb <;> (try simp [-List.getD_eq_getElem?_getD] at hb) <;> try (exfalso; omega)) | refine Ob.intro ?_ ?_))
 ((conv => whnf); refine jf (fun _ => rfl) 300 1 (fun _ : Nat × Tr × Ps => []) (fun g => [(2, .box 89 g.2.1.cells), (0, pso ts g.2.2)]) (fun g => Pre ts n g.2.2 ∧ qav (part) (qdz ts) (qij ts) g.1 g.2.1 g.2.2 = qch ts part p ∧ (ts.length : Int) - g.2.2.at_ ≤ g.1) (fun g => ((ts.length : Int) - g.2.2.at_).toNat) ((ts.length, (part p).1, (part p).2)) (⟨hq, rfl, by have := hq.at_.lo; simp only; omega⟩) qa qa (fun _ => rfl) (by kernel_rfl) ?_; (conv => whnf))
 rintro ⟨k, a, r⟩ ⟨hP, hj, hk⟩
 simp only at hP hj hk
 have h0 := hP.at_.lo
 have h1 := hP.at_.hi
 obtain ⟨k, rfl⟩ : ∃ k', k = k' + 1 := ⟨k - 1, by omega⟩
 (repeat' ((conv => whnf); first | refine zA ?_ | refine zO ?_ | refine Ob.auto ?_ | (refine Ob.intro (by (exact jg (by dsimp only; omega) (by dsimp only; omega))) ?_) | refine zC 300 (qx hP.at_ _) ?_ | refine zG 300 (fun hg => qx hP.at_ _) ?_ | (refine CallY.con (qx hP.at_ _) (by rfl) leA ?_) | (refine CallZ.con (fun hg => qx hP.at_ _) qe (by rfl) ?_) | refine zE 300 (qx hP.at_ _) ?_ | refine zF 300 (fun hg => qx hP.at_ _) ?_ | refine zD 300 ?_ | (apply zB <;> intro hb <;> (try simp [-List.getD_eq_getElem?_getD] at hb) <;> try (exfalso; omega)) | refine Ob.intro ?_ ?_))
 ·have hc : (qdz ts) r = true := by simp [qdz, sumC, *]
  have hsg : (qij ts) r = 6 := by unfold qij; rw [if_pos hb]
  have hst := qh ht hP.at_ hb
  have hP' := hP.step hst
  rw [qav, if_pos hc, hsg] at hj
  have hle := (hrs _ hP'.at_).le
  have hle' : r.at_ + 1 ≤ (part (adv r)).2.at_ := hle
  (repeat' ((conv => whnf); first | refine zA ?_ | refine zO ?_ | refine Ob.auto ?_ | refine zD 300 ?_ | (refine ja (fun _ => rfl) (by kernel_rfl) 300 ?_) | (apply zB <;> intro hb <;> (try simp [-List.getD_eq_getElem?_getD] at hb) <;> try (exfalso; omega)) | refine Ob.intro ?_ ?_))
  ((conv => whnf); refine CallY.trip [0] (hps (adv r) hP') (by kernel_rfl) leA qa (by exact qb rfl) (by exact qb rfl) ?_)
  (conv => whnf)
  refine CallY.con (qhk 6 a (part (adv r)).1) (by rfl) leA ?_
  (repeat' ((conv => whnf); first | refine zO ?_ | refine Ob.auto ?_ | refine zD 300 ?_ | (refine ja (fun _ => rfl) (by kernel_rfl) 300 ?_) | (apply zB <;> intro hb <;> (try simp [-List.getD_eq_getElem?_getD] at hb) <;> try (exfalso; omega)) | refine Ob.intro ?_ ?_))
  ((conv => whnf); refine AltG.far 5 [2] (by kernel_rfl) farA (EndG.go ?_))
  (repeat' ((conv => whnf); first | refine zA ?_ | refine zO ?_ | refine Ob.auto ?_ | refine zD 300 ?_ | (apply zB <;> intro hb <;> (try simp [-List.getD_eq_getElem?_getD] at hb) <;> try (exfalso; omega)) | refine Ob.intro ?_ ?_))
  ((conv => whnf); refine ⟨(k, binT 6 a (part (adv r)).1, (part (adv r)).2), ⟨hP'.step (hrs _ hP'.at_), hj, by dsimp only; omega⟩, ⟨qa, qa⟩, ⟨qa, qa⟩, ?_⟩; (first | omega | (dsimp only; omega) | skip))
 ·have hc : (qdz ts) r = true := by simp [qdz, sumC, *]
  have hsg : (qij ts) r = 7 := by unfold qij; rw [if_neg (by simp [*]), if_pos hb]
  have hst := qh ht hP.at_ hb
  have hP' := hP.step hst
  rw [qav, if_pos hc, hsg] at hj
  have hle := (hrs _ hP'.at_).le
  have hle' : r.at_ + 1 ≤ (part (adv r)).2.at_ := hle
  (repeat' ((conv => whnf); first | refine zA ?_ | refine zO ?_ | refine Ob.auto ?_ | refine zD 300 ?_ | (refine ja (fun _ => rfl) (by kernel_rfl) 300 ?_) | (apply zB <;> intro hb <;> (try simp [-List.getD_eq_getElem?_getD] at hb) <;> try (exfalso; omega)) | refine Ob.intro ?_ ?_))
  ((conv => whnf); refine CallY.trip [0] (hps (adv r) hP') (by kernel_rfl) leA qa (by exact qb rfl) (by exact qb rfl) ?_)
  (conv => whnf)
  refine CallY.con (qhk 7 a (part (adv r)).1) (by rfl) leA ?_
  (repeat' ((conv => whnf); first | refine zO ?_ | refine Ob.auto ?_ | refine zD 300 ?_ | (refine ja (fun _ => rfl) (by kernel_rfl) 300 ?_) | (apply zB <;> intro hb <;> (try simp [-List.getD_eq_getElem?_getD] at hb) <;> try (exfalso; omega)) | refine Ob.intro ?_ ?_))
  ((conv => whnf); refine AltG.far 5 [2] (by kernel_rfl) farA (EndG.go ?_))
  (repeat' ((conv => whnf); first | refine zA ?_ | refine zO ?_ | refine Ob.auto ?_ | refine zD 300 ?_ | (apply zB <;> intro hb <;> (try simp [-List.getD_eq_getElem?_getD] at hb) <;> try (exfalso; omega)) | refine Ob.intro ?_ ?_))
  ((conv => whnf); refine ⟨(k, binT 7 a (part (adv r)).1, (part (adv r)).2), ⟨hP'.step (hrs _ hP'.at_), hj, by dsimp only; omega⟩, ⟨qa, qa⟩, ⟨qa, qa⟩, ?_⟩; (first | omega | (dsimp only; omega) | skip))
 ·have hpct : sees ts r sPct = true := by simp_all
  have hc : qdz ts r = true := by unfold qdz; rw [hpct]; simp
  have hsg : (qij ts) r = 8 := by unfold qij; rw [if_neg (by simp [*]), if_neg (by simp [*])]
  have hst := qh ht hP.at_ hpct
  have hP' := hP.step hst
  rw [qav, if_pos hc, hsg] at hj
  have hle := (hrs _ hP'.at_).le
  have hle' : r.at_ + 1 ≤ (part (adv r)).2.at_ := hle
  (repeat' ((conv => whnf); first | refine zA ?_ | refine zO ?_ | refine Ob.auto ?_ | refine zD 300 ?_ | (refine ja (fun _ => rfl) (by kernel_rfl) 300 ?_) | (apply zB <;> intro hb <;> (try simp [-List.getD_eq_getElem?_getD] at hb) <;> try (exfalso; omega)) | refine Ob.intro ?_ ?_))
  ((conv => whnf); refine CallY.trip [0] (hps (adv r) hP') (by kernel_rfl) leA qa (by exact qb rfl) (by exact qb rfl) ?_)
  (conv => whnf)
  refine CallY.con (qhk 8 a (part (adv r)).1) (by rfl) leA ?_
  (repeat' ((conv => whnf); first | refine zO ?_ | refine Ob.auto ?_ | refine zD 300 ?_ | (refine ja (fun _ => rfl) (by kernel_rfl) 300 ?_) | (apply zB <;> intro hb <;> (try simp [-List.getD_eq_getElem?_getD] at hb) <;> try (exfalso; omega)) | refine Ob.intro ?_ ?_))
  ((conv => whnf); refine AltG.far 5 [2] (by kernel_rfl) farA (EndG.go ?_))
  (repeat' ((conv => whnf); first | refine zA ?_ | refine zO ?_ | refine Ob.auto ?_ | refine zD 300 ?_ | (apply zB <;> intro hb <;> (try simp [-List.getD_eq_getElem?_getD] at hb) <;> try (exfalso; omega)) | refine Ob.intro ?_ ?_))
  ((conv => whnf); refine ⟨(k, binT 8 a (part (adv r)).1, (part (adv r)).2), ⟨hP'.step (hrs _ hP'.at_), hj, by dsimp only; omega⟩, ⟨qa, qa⟩, ⟨qa, qa⟩, ?_⟩; (first | omega | (dsimp only; omega) | skip))
 ·have hc : ¬ ((qdz ts) r = true) := by simp [qdz, sumC, hb]
  rw [qav, if_neg hc] at hj
  rw [← hj]
  exact ⟨Le.refl _, qa⟩

theorem jlc (ht : ToksOk ts) {part : Ps → Tr × Ps} (hr : Runs ts part) (hp : ∀ q, Pre ts n q → RdT ts 124 part q) : ∀ q, Pre ts n q → RdT ts 122 (sumF ts part) q := by
 intro p h
 have h2 := ht.len
 have hps := jlb ht hr hp
 have hrs := qok ht hr
 have hs := hrs p h.at_
 have hq := h.step hs
 refine qcg (T := tab Try.prog) (C := {}) 300 (fun _ => rfl) Try.func122 rfl (by kernel_rfl) (by kernel_rfl) (fun c0 rdb mpb => ?_)
 (repeat' ((conv => whnf); first | refine zA ?_ | refine zO ?_ | refine Ob.auto ?_ | refine zD 300 ?_ | (apply zB <;> intro hb <;> (try simp [-List.getD_eq_getElem?_getD] at hb) <;> try (exfalso; omega)) | refine Ob.intro ?_ ?_))
 ((conv => whnf); refine zT 300 [0] (hps p h) qa ?_)
 (repeat' ((conv => whnf); first | refine zA ?_ | refine zO ?_ | refine Ob.auto ?_ | refine zD 300 ?_ | (apply zB <;> intro hb <;> (try simp [-List.getD_eq_getElem?_getD] at hb) <;> try (exfalso; omega)) | refine Ob.intro ?_ ?_))
 ((conv => whnf); refine jf (fun _ => rfl) 300 1 (fun _ : Nat × Tr × Ps => []) (fun g => [(2, .box 89 g.2.1.cells), (0, pso ts g.2.2)]) (fun g => Pre ts n g.2.2 ∧ qav (qch ts part) (sumC ts) (sumS ts) g.1 g.2.1 g.2.2 = sumF ts part p ∧ (ts.length : Int) - g.2.2.at_ ≤ g.1) (fun g => ((ts.length : Int) - g.2.2.at_).toNat) ((ts.length, (qch ts part p).1, (qch ts part p).2)) (⟨hq, rfl, by have := hq.at_.lo; simp only; omega⟩) qa qa (fun _ => rfl) (by kernel_rfl) ?_; (conv => whnf))
 rintro ⟨k, a, r⟩ ⟨hP, hj, hk⟩
 simp only at hP hj hk
 have h0 := hP.at_.lo
 have h1 := hP.at_.hi
 obtain ⟨k, rfl⟩ : ∃ k', k = k' + 1 := ⟨k - 1, by omega⟩
 (repeat' ((conv => whnf); first | refine zA ?_ | refine zO ?_ | refine Ob.auto ?_ | (refine Ob.intro (by (exact jg (by dsimp only; omega) (by dsimp only; omega))) ?_) | refine zC 300 (qx hP.at_ _) ?_ | refine zG 300 (fun hg => qx hP.at_ _) ?_ | (refine CallY.con (qx hP.at_ _) (by rfl) leA ?_) | (refine CallZ.con (fun hg => qx hP.at_ _) qe (by rfl) ?_) | refine zE 300 (qx hP.at_ _) ?_ | refine zF 300 (fun hg => qx hP.at_ _) ?_ | refine zD 300 ?_ | (apply zB <;> intro hb <;> (try simp [-List.getD_eq_getElem?_getD] at hb) <;> try (exfalso; omega)) | refine Ob.intro ?_ ?_))
 ·have hc : (sumC ts) r = true := by simp [qdz, sumC, *]
  have hsg : (sumS ts) r = 4 := by unfold sumS; rw [if_pos hb]
  have hst := qh ht hP.at_ hb
  have hP' := hP.step hst
  rw [qav, if_pos hc, hsg] at hj
  have hle := (hrs _ hP'.at_).le
  have hle' : r.at_ + 1 ≤ (qch ts part (adv r)).2.at_ := hle
  (repeat' ((conv => whnf); first | refine zA ?_ | refine zO ?_ | refine Ob.auto ?_ | refine zD 300 ?_ | (refine ja (fun _ => rfl) (by kernel_rfl) 300 ?_) | (apply zB <;> intro hb <;> (try simp [-List.getD_eq_getElem?_getD] at hb) <;> try (exfalso; omega)) | refine Ob.intro ?_ ?_))
  ((conv => whnf); refine CallY.trip [0] (hps (adv r) hP') (by kernel_rfl) leA qa (by exact qb rfl) (by exact qb rfl) ?_)
  (conv => whnf)
  refine CallY.con (qhk 4 a (qch ts part (adv r)).1) (by rfl) leA ?_
  (repeat' ((conv => whnf); first | refine zO ?_ | refine Ob.auto ?_ | refine zD 300 ?_ | (refine ja (fun _ => rfl) (by kernel_rfl) 300 ?_) | (apply zB <;> intro hb <;> (try simp [-List.getD_eq_getElem?_getD] at hb) <;> try (exfalso; omega)) | refine Ob.intro ?_ ?_))
  ((conv => whnf); refine AltG.far 5 [2] (by kernel_rfl) farA (EndG.go ?_))
  (repeat' ((conv => whnf); first | refine zA ?_ | refine zO ?_ | refine Ob.auto ?_ | refine zD 300 ?_ | (apply zB <;> intro hb <;> (try simp [-List.getD_eq_getElem?_getD] at hb) <;> try (exfalso; omega)) | refine Ob.intro ?_ ?_))
  ((conv => whnf); refine ⟨(k, binT 4 a (qch ts part (adv r)).1, (qch ts part (adv r)).2), ⟨hP'.step (hrs _ hP'.at_), hj, by dsimp only; omega⟩, ⟨qa, qa⟩, ⟨qa, qa⟩, ?_⟩; (first | omega | (dsimp only; omega) | skip))
 ·have hmin : sees ts r qew = true := by simp_all
  have hc : sumC ts r = true := by unfold sumC; rw [hmin]; simp
  have hsg : (sumS ts) r = 5 := by unfold sumS; rw [if_neg (by simp [*])]
  have hst := qh ht hP.at_ hmin
  have hP' := hP.step hst
  rw [qav, if_pos hc, hsg] at hj
  have hle := (hrs _ hP'.at_).le
  have hle' : r.at_ + 1 ≤ (qch ts part (adv r)).2.at_ := hle
  (repeat' ((conv => whnf); first | refine zA ?_ | refine zO ?_ | refine Ob.auto ?_ | refine zD 300 ?_ | (refine ja (fun _ => rfl) (by kernel_rfl) 300 ?_) | (apply zB <;> intro hb <;> (try simp [-List.getD_eq_getElem?_getD] at hb) <;> try (exfalso; omega)) | refine Ob.intro ?_ ?_))
  ((conv => whnf); refine CallY.trip [0] (hps (adv r) hP') (by kernel_rfl) leA qa (by exact qb rfl) (by exact qb rfl) ?_)
  (conv => whnf)
  refine CallY.con (qhk 5 a (qch ts part (adv r)).1) (by rfl) leA ?_
  (repeat' ((conv => whnf); first | refine zO ?_ | refine Ob.auto ?_ | refine zD 300 ?_ | (refine ja (fun _ => rfl) (by kernel_rfl) 300 ?_) | (apply zB <;> intro hb <;> (try simp [-List.getD_eq_getElem?_getD] at hb) <;> try (exfalso; omega)) | refine Ob.intro ?_ ?_))
  ((conv => whnf); refine AltG.far 5 [2] (by kernel_rfl) farA (EndG.go ?_))
  (repeat' ((conv => whnf); first | refine zA ?_ | refine zO ?_ | refine Ob.auto ?_ | refine zD 300 ?_ | (apply zB <;> intro hb <;> (try simp [-List.getD_eq_getElem?_getD] at hb) <;> try (exfalso; omega)) | refine Ob.intro ?_ ?_))
  ((conv => whnf); refine ⟨(k, binT 5 a (qch ts part (adv r)).1, (qch ts part (adv r)).2), ⟨hP'.step (hrs _ hP'.at_), hj, by dsimp only; omega⟩, ⟨qa, qa⟩, ⟨qa, qa⟩, ?_⟩; (first | omega | (dsimp only; omega) | skip))
 ·have hc : ¬ ((sumC ts) r = true) := by simp [qdz, sumC, hb]
  rw [qav, if_neg hc] at hj
  rw [← hj]
  exact ⟨Le.refl _, qa⟩

theorem jld (ht : ToksOk ts) {part : Ps → Tr × Ps} (hr : Runs ts part) (hp : ∀ q, Pre ts n q → RdT ts 124 part q) : ∀ q, Pre ts n q → RdT ts 121 (qcc ts part) q := by
 intro p h
 have h2 := ht.len
 have hps := jlc ht hr hp
 have hrs := qub ht hr
 have hs := hrs p h.at_
 have hq := h.step hs
 refine qcg (T := tab Try.prog) (C := {}) 300 (fun _ => rfl) Try.func121 rfl (by kernel_rfl) (by kernel_rfl) (fun c0 rdb mpb => ?_)
 (repeat' ((conv => whnf); first | refine zA ?_ | refine zO ?_ | refine Ob.auto ?_ | refine zD 300 ?_ | (apply zB <;> intro hb <;> (try simp [-List.getD_eq_getElem?_getD] at hb) <;> try (exfalso; omega)) | refine Ob.intro ?_ ?_))
 ((conv => whnf); refine zT 300 [0] (hps p h) qa ?_)
 (repeat' ((conv => whnf); first | refine zA ?_ | refine zO ?_ | refine Ob.auto ?_ | refine zD 300 ?_ | (apply zB <;> intro hb <;> (try simp [-List.getD_eq_getElem?_getD] at hb) <;> try (exfalso; omega)) | refine Ob.intro ?_ ?_))
 ((conv => whnf); refine zT 300 [0] (qaw ht hq.at_ sLt) qa ?_)
 (repeat' ((conv => whnf); first | refine zA ?_ | refine zO ?_ | refine Ob.auto ?_ | refine zD 300 ?_ | (apply zB <;> intro hb <;> (try simp [-List.getD_eq_getElem?_getD] at hb) <;> try (exfalso; omega)) | refine Ob.intro ?_ ?_))
 ·have e1 : took ts (sumF ts part p).2 sLt = adv (sumF ts part p).2 := if_pos hb
  have hP' := hq.step (qh ht hq.at_ hb)
  have e2 : qcc ts part p = (binT 3 (sumF ts part p).1 (sumF ts part (adv (sumF ts part p).2)).1, (sumF ts part (adv (sumF ts part p).2)).2) := if_pos hb
  rw [e1, e2]
  (repeat' ((conv => whnf); first | refine zA ?_ | refine zO ?_ | refine Ob.auto ?_ | refine zD 300 ?_ | (refine ja (fun _ => rfl) (by kernel_rfl) 300 ?_) | (apply zB <;> intro hb <;> (try simp [-List.getD_eq_getElem?_getD] at hb) <;> try (exfalso; omega)) | refine Ob.intro ?_ ?_))
  ((conv => whnf); refine CallY.trip [0] (hps _ hP') (by kernel_rfl) leA qa (by exact qb rfl) (by exact qb rfl) ?_)
  (conv => whnf)
  refine CallY.con (qhk 3 (sumF ts part p).1 (sumF ts part (adv (sumF ts part p).2)).1) (by rfl) leA ?_
  (repeat' ((conv => whnf); first | refine zO ?_ | refine Ob.auto ?_ | refine zD 300 ?_ | (refine ja (fun _ => rfl) (by kernel_rfl) 300 ?_) | (apply zB <;> intro hb <;> (try simp [-List.getD_eq_getElem?_getD] at hb) <;> try (exfalso; omega)) | refine Ob.intro ?_ ?_))
  ((conv => whnf); refine AltG.far 4 [2] (by kernel_rfl) farA (EndG.go ?_))
  (repeat' ((conv => whnf); first | refine zA ?_ | refine zO ?_ | refine Ob.auto ?_ | refine zD 300 ?_ | (apply zB <;> intro hb <;> (try simp [-List.getD_eq_getElem?_getD] at hb) <;> try (exfalso; omega)) | refine Ob.intro ?_ ?_))
  exact ⟨Le.refl _, qa⟩
 ·have e1 : took ts (sumF ts part p).2 sLt = (sumF ts part p).2 := if_neg (by rw [hb]; decide)
  have e2 : qcc ts part p = sumF ts part p := if_neg (by rw [hb]; decide)
  rw [e1, e2]
  exact ⟨Le.refl _, qa⟩

theorem jle (ht : ToksOk ts) {part : Ps → Tr × Ps} (hr : Runs ts part) (hp : ∀ q, Pre ts n q → RdT ts 124 part q) : ∀ q, Pre ts n q → RdT ts 117 (qdo ts part) q := by
 intro p h
 have h2 := ht.len
 have hps := jld ht hr hp
 have hrs := quc ht hr
 have hs := hrs p h.at_
 have hq := h.step hs
 refine qcg (T := tab Try.prog) (C := {}) 300 (fun _ => rfl) Try.func117 rfl (by kernel_rfl) (by kernel_rfl) (fun c0 rdb mpb => ?_)
 (repeat' ((conv => whnf); first | refine zA ?_ | refine zO ?_ | refine Ob.auto ?_ | refine zD 300 ?_ | (apply zB <;> intro hb <;> (try simp [-List.getD_eq_getElem?_getD] at hb) <;> try (exfalso; omega)) | refine Ob.intro ?_ ?_))
 ((conv => whnf); refine zT 300 [0] (hps p h) qa ?_)
 (repeat' ((conv => whnf); first | refine zA ?_ | refine zO ?_ | refine Ob.auto ?_ | refine zD 300 ?_ | (apply zB <;> intro hb <;> (try simp [-List.getD_eq_getElem?_getD] at hb) <;> try (exfalso; omega)) | refine Ob.intro ?_ ?_))
 ((conv => whnf); refine zT 300 [0] (qaw ht hq.at_ sEq2) qa ?_)
 (repeat' ((conv => whnf); first | refine zA ?_ | refine zO ?_ | refine Ob.auto ?_ | refine zD 300 ?_ | (apply zB <;> intro hb <;> (try simp [-List.getD_eq_getElem?_getD] at hb) <;> try (exfalso; omega)) | refine Ob.intro ?_ ?_))
 ·have e1 : took ts (qcc ts part p).2 sEq2 = adv (qcc ts part p).2 := if_pos hb
  have hP' := hq.step (qh ht hq.at_ hb)
  have e2 : qdo ts part p = (binT 2 (qcc ts part p).1 (qcc ts part (adv (qcc ts part p).2)).1, (qcc ts part (adv (qcc ts part p).2)).2) := if_pos hb
  rw [e1, e2]
  (repeat' ((conv => whnf); first | refine zA ?_ | refine zO ?_ | refine Ob.auto ?_ | refine zD 300 ?_ | (refine ja (fun _ => rfl) (by kernel_rfl) 300 ?_) | (apply zB <;> intro hb <;> (try simp [-List.getD_eq_getElem?_getD] at hb) <;> try (exfalso; omega)) | refine Ob.intro ?_ ?_))
  ((conv => whnf); refine CallY.trip [0] (hps _ hP') (by kernel_rfl) leA qa (by exact qb rfl) (by exact qb rfl) ?_)
  (conv => whnf)
  refine CallY.con (qhk 2 (qcc ts part p).1 (qcc ts part (adv (qcc ts part p).2)).1) (by rfl) leA ?_
  (repeat' ((conv => whnf); first | refine zO ?_ | refine Ob.auto ?_ | refine zD 300 ?_ | (refine ja (fun _ => rfl) (by kernel_rfl) 300 ?_) | (apply zB <;> intro hb <;> (try simp [-List.getD_eq_getElem?_getD] at hb) <;> try (exfalso; omega)) | refine Ob.intro ?_ ?_))
  ((conv => whnf); refine AltG.far 4 [2] (by kernel_rfl) farA (EndG.go ?_))
  (repeat' ((conv => whnf); first | refine zA ?_ | refine zO ?_ | refine Ob.auto ?_ | refine zD 300 ?_ | (apply zB <;> intro hb <;> (try simp [-List.getD_eq_getElem?_getD] at hb) <;> try (exfalso; omega)) | refine Ob.intro ?_ ?_))
  exact ⟨Le.refl _, qa⟩
 ·have e1 : took ts (qcc ts part p).2 sEq2 = (qcc ts part p).2 := if_neg (by rw [hb]; decide)
  have e2 : qdo ts part p = qcc ts part p := if_neg (by rw [hb]; decide)
  rw [e1, e2]
  exact ⟨Le.refl _, qa⟩

theorem jlf (ht : ToksOk ts) {part : Ps → Tr × Ps} (hr : Runs ts part) (hp : ∀ q, Pre ts n q → RdT ts 124 part q) : ∀ q, Pre ts n q → RdT ts 111 (andF ts part) q := by
 intro p h
 have h2 := ht.len
 have hps := jle ht hr hp
 have hrs := qol ht hr
 have hs := hrs p h.at_
 have hq := h.step hs
 refine qcg (T := tab Try.prog) (C := {}) 300 (fun _ => rfl) Try.func111 rfl (by kernel_rfl) (by kernel_rfl) (fun c0 rdb mpb => ?_)
 (repeat' ((conv => whnf); first | refine zA ?_ | refine zO ?_ | refine Ob.auto ?_ | refine zD 300 ?_ | (apply zB <;> intro hb <;> (try simp [-List.getD_eq_getElem?_getD] at hb) <;> try (exfalso; omega)) | refine Ob.intro ?_ ?_))
 ((conv => whnf); refine zT 300 [0] (hps p h) qa ?_)
 (repeat' ((conv => whnf); first | refine zA ?_ | refine zO ?_ | refine Ob.auto ?_ | refine zD 300 ?_ | (apply zB <;> intro hb <;> (try simp [-List.getD_eq_getElem?_getD] at hb) <;> try (exfalso; omega)) | refine Ob.intro ?_ ?_))
 ((conv => whnf); refine jf (fun _ => rfl) 300 1 (fun _ : Nat × Tr × Ps => []) (fun g => [(2, .box 89 g.2.1.cells), (0, pso ts g.2.2)]) (fun g => Pre ts n g.2.2 ∧ qav (qdo ts part) (fun p => sees ts p qoh) (fun _ => 1) g.1 g.2.1 g.2.2 = andF ts part p ∧ (ts.length : Int) - g.2.2.at_ ≤ g.1) (fun g => ((ts.length : Int) - g.2.2.at_).toNat) ((ts.length, (qdo ts part p).1, (qdo ts part p).2)) (⟨hq, rfl, by have := hq.at_.lo; simp only; omega⟩) qa qa (fun _ => rfl) (by kernel_rfl) ?_; (conv => whnf))
 rintro ⟨k, a, r⟩ ⟨hP, hj, hk⟩
 simp only at hP hj hk
 have h0 := hP.at_.lo
 have h1 := hP.at_.hi
 obtain ⟨k, rfl⟩ : ∃ k', k = k' + 1 := ⟨k - 1, by omega⟩
 (repeat' ((conv => whnf); first | refine zA ?_ | refine zO ?_ | refine Ob.auto ?_ | (refine Ob.intro (by (exact jg (by dsimp only; omega) (by dsimp only; omega))) ?_) | refine zD 300 ?_ | (apply zB <;> intro hb <;> (try simp [-List.getD_eq_getElem?_getD] at hb) <;> try (exfalso; omega)) | refine Ob.intro ?_ ?_))
 ((conv => whnf); refine zT 300 [0] (qaw ht hP.at_ qoh) qa ?_)
 (repeat' ((conv => whnf); first | refine zA ?_ | refine zO ?_ | refine Ob.auto ?_ | refine zD 300 ?_ | (apply zB <;> intro hb <;> (try simp [-List.getD_eq_getElem?_getD] at hb) <;> try (exfalso; omega)) | refine Ob.intro ?_ ?_))
 ·have e1 : took ts r qoh = adv r := if_pos hb
  have hst := qh ht hP.at_ hb
  have hP' := hP.step hst
  rw [qav, if_pos hb] at hj
  have hle := (hrs _ hP'.at_).le
  have hle' : r.at_ + 1 ≤ (qdo ts part (adv r)).2.at_ := hle
  dsimp only
  rw [e1]
  (repeat' ((conv => whnf); first | refine zA ?_ | refine zO ?_ | refine Ob.auto ?_ | refine zD 300 ?_ | (refine ja (fun _ => rfl) (by kernel_rfl) 300 ?_) | (apply zB <;> intro hb <;> (try simp [-List.getD_eq_getElem?_getD] at hb) <;> try (exfalso; omega)) | refine Ob.intro ?_ ?_))
  ((conv => whnf); refine CallY.trip [0] (hps (adv r) hP') (by kernel_rfl) leA qa (by exact qb rfl) (by exact qb rfl) ?_)
  (conv => whnf)
  refine CallY.con (qhk 1 a (qdo ts part (adv r)).1) (by rfl) leA ?_
  (repeat' ((conv => whnf); first | refine zO ?_ | refine Ob.auto ?_ | refine zD 300 ?_ | (refine ja (fun _ => rfl) (by kernel_rfl) 300 ?_) | (apply zB <;> intro hb <;> (try simp [-List.getD_eq_getElem?_getD] at hb) <;> try (exfalso; omega)) | refine Ob.intro ?_ ?_))
  ((conv => whnf); refine AltG.far 4 [2] (by kernel_rfl) farA (EndG.go ?_))
  (repeat' ((conv => whnf); first | refine zA ?_ | refine zO ?_ | refine Ob.auto ?_ | refine zD 300 ?_ | (apply zB <;> intro hb <;> (try simp [-List.getD_eq_getElem?_getD] at hb) <;> try (exfalso; omega)) | refine Ob.intro ?_ ?_))
  ((conv => whnf); refine ⟨(k, binT 1 a (qdo ts part (adv r)).1, (qdo ts part (adv r)).2), ⟨hP'.step (hrs _ hP'.at_), hj, by dsimp only; omega⟩, ⟨qa, qa⟩, ⟨qa, qa⟩, ?_⟩; (first | omega | (dsimp only; omega) | skip))
 ·have e1 : took ts r qoh = r := if_neg (by rw [hb]; decide)
  rw [qav, if_neg (by rw [hb]; decide)] at hj
  rw [← hj]
  dsimp only
  rw [e1]
  exact ⟨Le.refl _, qa⟩

theorem qzr (ht : ToksOk ts) {part : Ps → Tr × Ps} (hr : Runs ts part) (hp : ∀ q, Pre ts n q → RdT ts 124 part q) : ∀ q, Pre ts n q → RdT ts 98 (qea ts part) q := by
 intro p h
 have h2 := ht.len
 have hps := jlf ht hr hp
 have hrs := qom ht hr
 have hs := hrs p h.at_
 have hq := h.step hs
 refine qcg (T := tab Try.prog) (C := {}) 300 (fun _ => rfl) Try.func98 rfl (by kernel_rfl) (by kernel_rfl) (fun c0 rdb mpb => ?_)
 (repeat' ((conv => whnf); first | refine zA ?_ | refine zO ?_ | refine Ob.auto ?_ | refine zD 300 ?_ | (apply zB <;> intro hb <;> (try simp [-List.getD_eq_getElem?_getD] at hb) <;> try (exfalso; omega)) | refine Ob.intro ?_ ?_))
 ((conv => whnf); refine zT 300 [0] (hps p h) qa ?_)
 (repeat' ((conv => whnf); first | refine zA ?_ | refine zO ?_ | refine Ob.auto ?_ | refine zD 300 ?_ | (apply zB <;> intro hb <;> (try simp [-List.getD_eq_getElem?_getD] at hb) <;> try (exfalso; omega)) | refine Ob.intro ?_ ?_))
 ((conv => whnf); refine jf (fun _ => rfl) 300 1 (fun _ : Nat × Tr × Ps => []) (fun g => [(2, .box 89 g.2.1.cells), (0, pso ts g.2.2)]) (fun g => Pre ts n g.2.2 ∧ qav (andF ts part) (fun p => sees ts p sOr2) (fun _ => 0) g.1 g.2.1 g.2.2 = qea ts part p ∧ (ts.length : Int) - g.2.2.at_ ≤ g.1) (fun g => ((ts.length : Int) - g.2.2.at_).toNat) ((ts.length, (andF ts part p).1, (andF ts part p).2)) (⟨hq, rfl, by have := hq.at_.lo; simp only; omega⟩) qa qa (fun _ => rfl) (by kernel_rfl) ?_; (conv => whnf))
 rintro ⟨k, a, r⟩ ⟨hP, hj, hk⟩
 simp only at hP hj hk
 have h0 := hP.at_.lo
 have h1 := hP.at_.hi
 obtain ⟨k, rfl⟩ : ∃ k', k = k' + 1 := ⟨k - 1, by omega⟩
 (repeat' ((conv => whnf); first | refine zA ?_ | refine zO ?_ | refine Ob.auto ?_ | (refine Ob.intro (by (exact jg (by dsimp only; omega) (by dsimp only; omega))) ?_) | refine zD 300 ?_ | (apply zB <;> intro hb <;> (try simp [-List.getD_eq_getElem?_getD] at hb) <;> try (exfalso; omega)) | refine Ob.intro ?_ ?_))
 ((conv => whnf); refine zT 300 [0] (qaw ht hP.at_ sOr2) qa ?_)
 (repeat' ((conv => whnf); first | refine zA ?_ | refine zO ?_ | refine Ob.auto ?_ | refine zD 300 ?_ | (apply zB <;> intro hb <;> (try simp [-List.getD_eq_getElem?_getD] at hb) <;> try (exfalso; omega)) | refine Ob.intro ?_ ?_))
 ·have e1 : took ts r sOr2 = adv r := if_pos hb
  have hst := qh ht hP.at_ hb
  have hP' := hP.step hst
  rw [qav, if_pos hb] at hj
  have hle := (hrs _ hP'.at_).le
  have hle' : r.at_ + 1 ≤ (andF ts part (adv r)).2.at_ := hle
  dsimp only
  rw [e1]
  (repeat' ((conv => whnf); first | refine zA ?_ | refine zO ?_ | refine Ob.auto ?_ | refine zD 300 ?_ | (refine ja (fun _ => rfl) (by kernel_rfl) 300 ?_) | (apply zB <;> intro hb <;> (try simp [-List.getD_eq_getElem?_getD] at hb) <;> try (exfalso; omega)) | refine Ob.intro ?_ ?_))
  ((conv => whnf); refine CallY.trip [0] (hps (adv r) hP') (by kernel_rfl) leA qa (by exact qb rfl) (by exact qb rfl) ?_)
  (conv => whnf)
  refine CallY.con (qhk 0 a (andF ts part (adv r)).1) (by rfl) leA ?_
  (repeat' ((conv => whnf); first | refine zO ?_ | refine Ob.auto ?_ | refine zD 300 ?_ | (refine ja (fun _ => rfl) (by kernel_rfl) 300 ?_) | (apply zB <;> intro hb <;> (try simp [-List.getD_eq_getElem?_getD] at hb) <;> try (exfalso; omega)) | refine Ob.intro ?_ ?_))
  ((conv => whnf); refine AltG.far 4 [2] (by kernel_rfl) farA (EndG.go ?_))
  (repeat' ((conv => whnf); first | refine zA ?_ | refine zO ?_ | refine Ob.auto ?_ | refine zD 300 ?_ | (apply zB <;> intro hb <;> (try simp [-List.getD_eq_getElem?_getD] at hb) <;> try (exfalso; omega)) | refine Ob.intro ?_ ?_))
  ((conv => whnf); refine ⟨(k, binT 0 a (andF ts part (adv r)).1, (andF ts part (adv r)).2), ⟨hP'.step (hrs _ hP'.at_), hj, by dsimp only; omega⟩, ⟨qa, qa⟩, ⟨qa, qa⟩, ?_⟩; (first | omega | (dsimp only; omega) | skip))
 ·have e1 : took ts r sOr2 = r := if_neg (by rw [hb]; decide)
  rw [qav, if_neg (by rw [hb]; decide)] at hj
  rw [← hj]
  dsimp only
  rw [e1]
  exact ⟨Le.refl _, qa⟩

end

end Go.Proofs.Ytdoaagphhjggbaa
